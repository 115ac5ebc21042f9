/- Part of a proof. -/
import Derived.Test.YtlmkcakhhbckhaaGreatDoorPe2
import Derived.Maps.RangeRun
import Derived.Orders
set_option linter.unusedSimpArgs false
set_option linter.unusedVariables false
set_option maxRecDepth 20000
namespace Go.Eng
noncomputable section
open Go.RowKit (Below)
section
variable {G : Type} (S : Sig G) (ρ : Env G) (w0 : World) {P : Program}
theorem YA {F : Zd} {st : St} {ns : List SX} {sv : SV} {hp : List Ch} {w w' : World} {K : SV -> St -> VC} {v : Value} (hst : HSt S w0 F st ρ w) (hn : ∀ x ∈ ns, (x.den S ρ).tP)
  (h : (K sv { st with hp := hp, asm := ns ++ st.asm }).den S ρ) (hs : Sat w0 (Zg (Ze S ρ w0 hp) F) w') (hv : sv.R S ρ v) : ZjT S ρ w0 F st K w' v :=
 ⟨ρ, sv, { st with hp := hp, asm := ns ++ st.asm }, ⟨Ext.refl _ _, ZJd _, rfl, fun _ h => h, ⟨hs, fun e he => (List.mem_append.1 he).elim (hn e) (hst.asm e)⟩⟩, hv, h⟩
theorem Zwq {s : Sem Unit} {w w' : World} (h : s.run P w = .ok () w') : (do s; pure Next.skip : Sem Next).run P w = .ok .skip w' := by
 have : (do s; pure Next.skip : Sem Next) = s.bind (fun _ => Sem.pure Next.skip) := rfl
 rw [this, Sem.run_bind', h]; rfl
theorem Ze8 {t : TypeId} {n : Nat} (hn : Za9 P t = some n) (a : Addr) (v : Value) (hv : v.cells.size = n) {w w' : World} (h : (storeCells a v.cells.toList).run P w = .ok () w') : (Instr.storeAt t (.pointer (some a)) v).run P w = .ok () w' := by
 simp [Instr.storeAt, Instr.sureAddr, storeVar, Zm hn, hv, h]
theorem Zq8 (Pr M R sp C : List Value) (j : Nat) (h : j + C.length <= M.length) :
  (Pr ++ (M ++ R) ++ sp).take (Pr.length + j) ++ C ++ (Pr ++ (M ++ R) ++ sp).drop (Pr.length + j + C.length) = Pr ++ (M.take j ++ C ++ M.drop (j + C.length)) ++ R ++ sp := by
 have e1 : (Pr ++ (M ++ R) ++ sp).take (Pr.length + j) = Pr ++ M.take j := by
  rw [ZJL, List.take_length_add_append, ZJL, List.take_append_of_le_length (by omega)]
 have e2 : (Pr ++ (M ++ R) ++ sp).drop (Pr.length + j + C.length) = M.drop (j + C.length) ++ R ++ sp := by
  rw [ZJL, Nat.add_assoc, List.drop_length_add_append, ZJL, List.drop_append_of_le_length (by omega)]
  simp
 rw [e1, e2]
 simp
theorem ZHC (A sp C : List Value) (K s j : Nat) (h1 : j + C.length <= s) (h2 : K + s <= A.length) :
  (A ++ sp).take (K + j) ++ C ++ (A ++ sp).drop (K + j + C.length) = A.take K ++ (((A.drop K).take s).take j ++ C ++ ((A.drop K).take s).drop (j + C.length)) ++ A.drop (K + s) ++ sp := by
 have hA : A = A.take K ++ ((A.drop K).take s ++ A.drop (K + s)) := by
  rw [<- List.drop_drop, List.take_append_drop, List.take_append_drop]
 have hP : (A.take K).length = K := by simp; omega
 have hM : ((A.drop K).take s).length = s := by simp; omega
 have := Zq8 (A.take K) ((A.drop K).take s) (A.drop (K + s)) sp C j (by rw [hM]; exact h1)
 rw [<- hA, hP] at this
 exact this
theorem ZtH {F : Zd} {st : St} {t : TypeId} {x y : Operand} {w : World} {K : SV -> St -> VC} {ev : Operand -> Value} {o : Oper} (ho : o.op = .store t x y) (hst : HSt S w0 F st ρ w) (hL : ∀ x, (lk st.fr x).R S ρ (ev x)) (h : (lop P st (.store t x y) K).den S ρ) :
  LOk S ρ w0 F st K ((execOp ev o).run P w) := by
 simp only [lop] at h
 split at h
 ·rename_i b off cs n hx hy hn
  cases h1 : Nat.beq cs.length n
  ·rw [h1] at h; exact h.elim
  rw [h1] at h
  simp only [cond_true] at h
  split at h
  ·rename_i hp YZ
   cases h2 : Nat.ble 1 n
   ·rw [h2] at h; exact h.elim
   rw [h2] at h
   simp only [cond_true] at h
   have hlen := ZJo h1
   have hne : cs ≠ [] := by rintro rfl; simp at hlen; subst hlen; cases h2
   obtain ⟨hb, w', hrun, hs'⟩ := ZjZ S ρ w0 (P := P) YZ hne hst.hp
   have hc := ZaJ S ρ hy (hL y)
   have hev := R_one S ρ (hx ▸ hL x)
   simp only [SC.den] at hev
   rw [if_neg (by omega)] at hev
   refine ⟨w', .inr ⟨?_, YA S ρ w0 (ns := []) hst (by simp) h hs' (.inr rfl)⟩⟩
   unfold execOp; rw [ho]
   refine Zwq (s := Instr.storeAt t (ev x) (ev y)) ?_
   rw [hev]
   refine Ze8 hn _ _ ?_ ?_
   ·rw [<- Array.length_toList, hc]; simpa using hlen
   ·rw [hc]; exact hrun
  ·exact h.elim
 ·rename_i b off i s j cs n hx hy hn
  cases h1 : Nat.beq cs.length n
  ·rw [h1] at h; exact h.elim
  cases h2 : Nat.ble (j + n) s
  ·rw [h1, h2] at h; exact h.elim
  cases h3 : SX.bq off (.int 0)
  ·rw [h1, h2, h3] at h; exact h.elim
  rw [h1, h2, h3] at h
  simp only [cond_true] at h
  split at h
  ·rename_i en xs c rest htk
   cases h4 : Nat.beq s en.stride
   ·rw [h4] at h; exact h.elim
   rw [h4] at h
   simp only [cond_true] at h
   split at h
   ·rename_i row hput
    split at h
    ·rename_i ns el hel
     obtain ⟨hn0, hk⟩ := ZA S ρ h
     obtain ⟨n1, hn1⟩ := Za S ρ hst.asm hn0
     obtain ⟨n2, hn2⟩ := Za S ρ hst.asm hn1
     rw [eLe_den] at n1
     rw [Yo, En.lenX_den] at n2
     simp only [SX.den, U.tIi] at n1 n2
     have hlen := ZJo h1
     have hjs := ZJA h2
     have hs := ZJo h4
     have hoff := SX.bq_eq h3
     subst hoff
     have hc := ZaJ S ρ hy (hL y)
     have hev := R_one S ρ (hx ▸ hL x)
     simp only [SC.den, SX.den, U.tIi] at hev
     have hel' := En.el_sound S ρ hst.asm hel hn2
     obtain ⟨hp1, hp2, hp3⟩ := Zcj S ρ _ _ _ _ hput
     obtain ⟨l1, l2, hl, hr⟩ := YM htk
     have hsat := hst.hp
     rw [hl, Yf, Zc] at hsat
     obtain ⟨spare, hsat⟩ := ZaB hsat
     obtain ⟨e1, hsat⟩ := Zt hsat
     obtain ⟨e2, hsat⟩ := Zt hsat
     obtain ⟨e3, hsat⟩ := Zt hsat
     generalize hI : (i.den S ρ).tI.toNat = I at *
     have hIlt : I < en.len (xs.den S ρ) := by omega
     have hvl := En.vals_length en (xs.den S ρ)
     have hroom : I * s + s <= (en.vals (xs.den S ρ)).length := by
      rw [hvl, hs, <- Nat.succ_mul]; exact ZJe _ hIlt
     have ZL : (en.get xs i).map (SC.den S ρ) = ((en.vals (xs.den S ρ)).drop (I * s)).take s := by
      apply List.ext_getElem?
      intro q
      by_cases hq : q < s
      ·rw [En.get_den S ρ en xs i (by rw [hI]; exact hIlt) q (by omega), List.getElem?_take_of_lt hq, ZJM, hI, hs]
      ·rw [List.getElem?_eq_none (by simp [En.get_length, <- hs]; omega), List.getElem?_eq_none (by simp; omega)]
     obtain ⟨w', hrun, hs'⟩ := Ye (P := P) w0 _ 0 (I * s + j) en.nf _ (cs.map (SC.den S ρ)) 0 _ w hsat (by simp; omega) (fun v hv => by
      obtain ⟨c, _, rfl⟩ := List.mem_map.1 hv; exact SC.den_one S ρ c)
     refine ⟨w', .inr ⟨?_, YA S ρ w0 hst hn0 hk ?_ (.inr rfl)⟩⟩
     ·unfold execOp; rw [ho]
      refine Zwq (s := Instr.storeAt t (ev x) (ev y)) ?_
      rw [hev]
      refine Ze8 hn _ _ ?_ ?_
      ·rw [<- Array.length_toList, hc]; simpa using hlen
      ·rw [hc]
       have : (0 : Int).toNat + I * s + j = 0 + (I * s + j) := by simp
       rw [this]
       exact hrun
     ·show Sat w0 (Zg (Ze S ρ w0 (.arr en b (en.setX xs i el) c :: rest)) F) w'
      rw [Zw, Zc, hr]
      refine Sat.mono hs' (fun z hz => Zo (fun z hz => ?_) (fun _ h => h) z hz)
      have hnew : List.take (I * s + j + 0) (en.vals (xs.den S ρ) ++ spare) ++ List.map (SC.den S ρ) cs ++ List.drop (I * s + j + 0 + (List.map (SC.den S ρ) cs).length) (en.vals (xs.den S ρ) ++ spare)
        = en.vals ((en.setX xs i el).den S ρ) ++ spare := by
       rw [En.vals_set S ρ en xs i el (by rw [hI]; exact hIlt), hI, <- hs, <- hel', hp3, ZL, Nat.add_zero]
       have := ZHC (en.vals (xs.den S ρ)) spare (cs.map (SC.den S ρ)) (I * s) s j (by simp; omega) hroom
       rw [ZJx] at this ⊢
       exact this
      have hlen' : (en.vals ((en.setX xs i el).den S ρ)).length = (en.vals (xs.den S ρ)).length := by
       have h8 := congrArg List.length hnew
       simp only [ZJs, ZJp, ZJB, ZJx] at h8
       omega
      refine ⟨spare, by rw [hlen']; exact e1, e2, e3, ?_⟩
      ·rw [<- hnew]; exact hz
    ·exact h.elim
   ·exact h.elim
  ·exact h.elim
 ·exact h.elim
end
end
end Go.Eng
namespace Go.Eng
noncomputable section
open Go.RowKit (Below)
theorem ZkV : ∀ {m : List (Int × Int)} {k y : Int}, Zif m k = none -> Za4 m k y = m ++ [(k, y)] /\ k ∉ m.map (·.1)
 | [], k, y, h => by simp [Za4]
 | (a, b) :: m, k, y, h => by
  simp only [Zif] at h
  split at h
  ·cases h
  ·rename_i hne
   have := ZkV (m := m) (k := k) (y := y) (by cases hm : Zif m k <;> simp [hm] at h ⊢)
   simp only [Za4, if_neg hne, this.1]
   exact ⟨rfl, by simp; exact ⟨fun h' => hne h'.symm, by simpa using this.2⟩⟩
theorem Zj7 : ∀ {m : List (Int × Int)} {k y : Int} {j : Nat}, Zif m k = some j -> Za4 m k y = m.set j (k, y) /\ ∃ v, m[j]? = some (k, v)
 | [], k, y, j, h => by cases h
 | (a, b) :: m, k, y, j, h => by
  simp only [Zif] at h
  split at h
  ·rename_i he; cases h; subst he; simp [Za4]
  ·rename_i hne
   obtain ⟨i, hi, rfl⟩ := Option.map_eq_some_iff.1 h
   obtain ⟨h1, v, h2⟩ := Zj7 (y := y) hi
   simp only [Za4, if_neg hne, h1]
   exact ⟨rfl, v, by simpa using h2⟩
theorem Zkg : ∀ {m : List (Int × Int)} {k : Int}, Zif m k = none -> Zee m k = m
 | [], k, h => rfl
 | (a, b) :: m, k, h => by
  simp only [Zif] at h
  split at h
  ·cases h
  ·rename_i hne
   simp only [Zee, if_neg hne, Zkg (m := m) (k := k) (by cases hm : Zif m k <;> simp [hm] at h ⊢)]
theorem Zli : ∀ {m : List (Int × Int)} {k : Int} {j : Nat}, Zif m k = some j -> Zee m k = m.eraseIdx j /\ j < m.length
 | [], k, j, h => by cases h
 | (a, b) :: m, k, j, h => by
  simp only [Zif] at h
  split at h
  ·rename_i he; cases h; subst he; simp [Zee]
  ·rename_i hne
   obtain ⟨i, hi, rfl⟩ := Option.map_eq_some_iff.1 h
   obtain ⟨h1, h2⟩ := Zli hi
   simp only [Zee, if_neg hne, h1]
   exact ⟨rfl, by simpa using h2⟩
theorem map_eraseIdx' {α β : Type} (f : α -> β) : ∀ (l : List α) (j : Nat), (l.eraseIdx j).map f = (l.map f).eraseIdx j
 | [], _ => by simp
 | _ :: _, 0 => by simp
 | a :: r, j + 1 => by simp [map_eraseIdx' f r j]
section
variable {P : Program}
theorem ZAv {kk : MK} {v : MV} {es : Array MapEntry} {clock : Nat} {m : List (Int × Int)} (h : Zhi kk v es clock m) : es.toList.length = m.length := by
 have := congrArg List.length h.1; simpa using this
theorem ZiM {t kt et : TypeId} {kk : MK} {d : TypeDesc} (hd : kk.fits d = true) {v : MV} {r : Nat} {es : Array MapEntry} {clock : Nat} {m : List (Int × Int)} {k y : Int} {x : Value} {w : World} (ht : P.underlying t = some (.map kt et)) (hk : P.underlying kt = some d) (hn : kk.ok k)
  (hb : w.heap[r]? = some (.map es clock)) (hm : Zhi kk v es clock m) (hx : x = v.val [y]) :
  ∃ es' clock', (Instr.mapUpdate t (.map (some r)) (kk.val k) x).run P w = .ok () { w with heap := w.heap.setIfInBounds r (.map es' clock') } /\ Zhi kk v es' clock' (Za4 m k y) := by
 have hf := fun w => Zdb (P := P) hd hk (v := v) hn 0 es.toList m hm.2.2.1 hm.1 w
 cases hi : Zif m k with
 | none =>
  obtain ⟨h1, h2⟩ := ZkV (y := y) hi
  refine ⟨es.push { key := kk.val k, val := x, born := clock }, clock + 1, ?_, ?_⟩
  ·simp [Instr.mapUpdate, run_underlying ht, MapKept.run_getObj_map hb, Yk hd hk, hf, hi, MapKept.run_setObj_map _ hb, Result.andThen]
  ·obtain ⟨m1, m2, mo, m3, m4⟩ := hm
   rw [h1]
   refine ⟨by simp [m1, hx], ?_, ?_, ?_, ?_⟩
   rotate_left
   ·intro p hp
    rcases List.mem_append.1 hp with hp | hp
    ·exact mo p hp
    ·rw [List.mem_singleton.1 hp]; exact hn
   rotate_right
   ·rw [ZJD, List.nodup_append]
    refine ⟨m2, by simp, ?_⟩
    intro a ha b hb' e
    simp at hb'
    subst hb'; subst e
    exact h2 ha
   ·simp only [Array.toList_push, ZJD, ZJw, List.map_nil]
    rw [List.nodup_append]
    refine ⟨m3, by simp, ?_⟩
    intro a ha b hb' e
    simp at hb'
    subst hb'; subst e
    obtain ⟨e', he', h3⟩ := List.mem_map.1 ha
    have := m4 e' he'
    omega
   ·intro e he
    simp only [Array.toList_push, List.mem_append, ZJg] at he
    rcases he with he | rfl
    ·have := m4 e he; omega
    ·simp
 | some j =>
  obtain ⟨h1, u, h2⟩ := Zj7 (y := y) hi
  obtain ⟨m1, m2, mo, m3, m4⟩ := hm
  have hlen := congrArg List.length m1
  simp at hlen
  have hj : j < es.size := by
   have := (List.getElem?_eq_some_iff.1 h2).1; omega
  have hkey : es[j]?.map (·.key) = some (kk.val k) := by
   have := congrArg (fun l : List (Value × Value) => l[j]?.map (·.1)) m1
   simp [h2] at this
   obtain ⟨e, he, hk'⟩ := this
   rw [he]; simp [hk']
  have hkey' : ((es[j]?).map (·.key)).getD (kk.val k) = kk.val k := by rw [hkey]; rfl
  refine ⟨es.modify j fun e => { e with key := kk.val k, val := x }, clock, ?_, ?_⟩
  ·have hsame : (Instr.keyThatStays (kk.val k) (kk.val k)).run P w = .ok (kk.val k) w := by
    have hb : ∀ x : ByteArray, (x == x) = true := fun x => by
     rw [show (x == x) = (x.data == x.data) from rfl]; simp
    cases kk <;> simp [Instr.keyThatStays, Instr.sameBits, MK.val, hb]
   simp [Instr.mapUpdate, run_underlying ht, MapKept.run_getObj_map hb, Yk hd hk, hf, hi, hkey', hsame, MapKept.run_setObj_map _ hb, Result.andThen]
  ·rw [h1]
   have hmod : (es.modify j fun e => { e with key := kk.val k, val := x }).toList = es.toList.set j { es[j] with key := kk.val k, val := x } := by
    rw [Array.toList_modify]
    apply List.ext_getElem?
    intro q
    rw [List.getElem?_modify, List.getElem?_set]
    by_cases hq : j = q
    ·subst hq; simp [hj]
    ·simp [hq]
   refine ⟨?_, ?_, ?_, ?_, ?_⟩
   ·rw [hmod, List.map_set, List.map_set, m1, hx]
   ·rw [List.map_set]
    have : (m.map (·.1)).set j k = m.map (·.1) := by
     apply List.ext_getElem?
     intro q
     by_cases hq : j = q
     ·subst hq
      have hjm : j < m.length := by omega
      rw [List.getElem?_set_self (by simpa using hjm)]
      simp [h2]
     ·rw [List.getElem?_set_ne hq]
    rw [this]; exact m2
   ·intro p hp
    rcases List.mem_or_eq_of_mem_set hp with hp | rfl
    ·exact mo p hp
    ·exact hn
   ·rw [hmod, List.map_set]
    have : (es.toList.map (·.born)).set j es[j].born = es.toList.map (·.born) := by
     apply List.ext_getElem?
     intro q
     by_cases hq : j = q
     ·subst hq
      rw [List.getElem?_set_self (by simpa using hj)]
      simp [hj]
     ·rw [List.getElem?_set_ne hq]
    simp only [this]; exact m3
   ·intro e he
    rw [hmod] at he
    rcases List.mem_or_eq_of_mem_set he with he | rfl
    ·exact m4 e he
    ·exact m4 es[j] (by simp)
theorem Zru {t kt et ty : TypeId} {kk : MK} {d : TypeDesc} (hd : kk.fits d = true) {v : MV} {r : Nat} {es : Array MapEntry} {clock : Nat} {m : List (Int × Int)} {k : Int} {w : World} {ts : Array TypeId} (ht0 : ts[0]? = some t) (ht : P.underlying t = some (.map kt et)) (hk : P.underlying kt = some d) (hn : kk.ok k)
  (hb : w.heap[r]? = some (.map es clock)) (hm : Zhi kk v es clock m) :
  ∃ es', (Builtin.delete_ ts ty #[.map (some r), kk.val k]).run P w = .ok (.tuple #[]) { w with heap := w.heap.setIfInBounds r (.map es' clock) } /\ Zhi kk v es' clock (Zee m k) := by
 have hf := fun w => Zdb (P := P) hd hk (v := v) hn 0 es.toList m hm.2.2.1 hm.1 w
 cases hi : Zif m k with
 | none =>
  refine ⟨es, ?_, by rw [Zkg hi]; exact hm⟩
  simp [Builtin.delete_, ht0, run_underlying ht, MapKept.run_getObj_map hb, Yk hd hk, hf, hi, MapKept.run_setObj_map _ hb, Result.andThen]
 | some j =>
  obtain ⟨h1, h2⟩ := Zli hi
  have hlen := ZAv hm
  obtain ⟨m1, m2, mo, m3, m4⟩ := hm
  refine ⟨es.eraseIdxIfInBounds j, ?_, ?_⟩
  ·simp [Builtin.delete_, ht0, run_underlying ht, MapKept.run_getObj_map hb, Yk hd hk, hf, hi, MapKept.run_setObj_map _ hb, Result.andThen]
  ·have he : (es.eraseIdxIfInBounds j).toList = es.toList.eraseIdx j := by simp
   rw [h1]
   refine ⟨by rw [he, map_eraseIdx', map_eraseIdx', m1], ?_, ?_, ?_, ?_⟩
   ·rw [map_eraseIdx']; exact m2.sublist (List.eraseIdx_sublist _ _)
   ·intro p hp; exact mo p ((List.eraseIdx_sublist _ _).subset hp)
   ·rw [he, map_eraseIdx']; exact m3.sublist (List.eraseIdx_sublist _ _)
   ·intro e h; rw [he] at h; exact m4 e ((List.eraseIdx_sublist _ _).subset h)
theorem ZyP {t kt et ty : TypeId} {r : Nat} {es : Array MapEntry} {clock : Nat} {w : World} {ts : Array TypeId} (ht0 : ts[0]? = some t) (ht : P.underlying t = some (.map kt et)) (hb : w.heap[r]? = some (.map es clock)) :
  (Builtin.clear_ ts ty #[.map (some r)]).run P w = .ok (.tuple #[]) { w with heap := w.heap.setIfInBounds r (.map #[] clock) } := by
 simp [Builtin.clear_, ht0, run_underlying ht, MapKept.run_getObj_map hb, MapKept.run_setObj_map _ hb, Result.andThen]
end
section
variable {G : Type} (S : Sig G) (ρ : Env G) (w0 : World) {P : Program}
theorem Zfy {F : Zd} {w : World} {kk : MK} {v : MV} {b m : SX} {hp rest : List Ch} (h : ZaC b hp = some (kk, v, m, rest)) (hs : Sat w0 (Zg (Ze S ρ w0 hp) F) w) :
  ∃ es clock, 0 <= (b.den S ρ).tI /\ Zhi kk v es clock (m.den S ρ).tM /\ w.heap[(b.den S ρ).tI.toNat]? = some (.map es clock) ∧
   ∀ es' clock' (m' : SX), Zhi kk v es' clock' (m'.den S ρ).tM -> Sat w0 (Zg (Ze S ρ w0 (.map kk v b m' :: rest)) F) { w with heap := w.heap.setIfInBounds (b.den S ρ).tI.toNat (.map es' clock') } := by
 obtain ⟨l1, l2, rfl, rfl⟩ := Zcl h
 rw [Yf, Zc] at hs
 obtain ⟨h1, hs⟩ := Zt hs
 obtain ⟨es, hs⟩ := ZaB hs
 obtain ⟨clock, hs⟩ := ZaB hs
 obtain ⟨h2, hs⟩ := Zt hs
 refine ⟨es, clock, h1, h2, hs.obj.2.2.1, fun es' clock' m' hm' => ?_⟩
 rw [Zw, Zc]
 refine (hs.setObj (.map es' clock') rfl).mono (fun y hy => Zo (fun z hz => ?_) (fun _ h => h) y hy)
 exact ⟨h1, es', clock', hm', hz⟩
theorem MV.enc_sound {v : MV} {sv : SV} {e : SX} {x : Value} (h : v.enc sv = some e) (hx : sv.R S ρ x) : x = v.val [(e.den S ρ).tI] := by
 unfold MV.enc at h
 split at h
 ·rename_i f c
  split at h
  ·rename_i e' henc; cases h
   obtain ⟨hw1, hw2⟩ := Fd.enc_sound S ρ henc
   rw [R_one S ρ hx, <- hw2 []]; rfl
  ·cases h
 ·rename_i s b; cases h
  rcases hx with hj | rfl
  ·cases hj
  ·simp only [SV.den, MV.val, ZJw, List.map_nil, SC.den]
   rw [SX.mk2_den]
   rw [show ∀ a b : SX, (SX.f2 40 a b).den S ρ = ap2 40 (a.den S ρ) (b.den S ρ) from fun _ _ => rfl, SX.mk2_den, SX.mk1_den]
   simp only [SX.den, ap1, ap2]
   rw [SX.mk1_den]
   simp only [SX.den, ap1, ap2, U.tIi, List.getD_cons_zero]
   have h1 : ((Zed (s.den S ρ).tB : Int) * 2 + if (b.den S ρ).toBool = true then 1 else 0).tdiv 2 = (Zed (s.den S ρ).tB : Nat) := by
    rw [Int.tdiv_eq_ediv_of_nonneg (by split <;> omega)]; split <;> omega
   have h2 : ((Zed (s.den S ρ).tB : Int) * 2 + if (b.den S ρ).toBool = true then 1 else 0).tmod 2 = if (b.den S ρ).toBool = true then 1 else 0 := by
    rw [Int.tmod_eq_emod_of_nonneg (by split <;> omega)]; split <;> omega
   rw [h1, h2, ZJu, Yd]
   cases (b.den S ρ).toBool <;> rfl
 ·cases h
theorem Ziv {F : Zd} {st : St} {t : TypeId} {mo ko vo : Operand} {w : World} {K : SV -> St -> VC} {ev : Operand -> Value} {o : Oper} (ho : o.op = .mapUpdate t mo ko vo) (hst : HSt S w0 F st ρ w) (hL : ∀ x, (lk st.fr x).R S ρ (ev x)) (h : (lop P st (.mapUpdate t mo ko vo) K).den S ρ) :
  LOk S ρ w0 F st K ((execOp ev o).run P w) := by
 simp only [lop] at h
 split at h
 ·rename_i kt et b kc hu hm hk
  split at h
  ·rename_i kk vd mm rest kd htk hkt
   split at h
   ·rename_i ke e hfit hkenc henc
    obtain ⟨es, clock, hb, hmo, hheap, hput⟩ := Zfy S ρ w0 htk hst.hp
    obtain ⟨hkv, hko⟩ := MK.enc_den S ρ hkenc
    have hm' := R_one S ρ (hm ▸ hL mo)
    have hk' := R_one S ρ (hk ▸ hL ko)
    simp only [SC.den] at hm'
    rw [if_neg (by omega)] at hm'
    have hx := MV.enc_sound S ρ henc (hL vo)
    obtain ⟨es', clock', hrun, hok⟩ := ZiM hfit hu hkt hko hheap hmo hx
    refine ⟨_, .inr ⟨?_, YA S ρ w0 (ns := []) hst (by simp) h (hput es' clock' _ ?_) (.inr rfl)⟩⟩
    ·unfold execOp; rw [ho]
     refine Zwq (s := Instr.mapUpdate t (ev mo) (ev ko) (ev vo)) ?_
     rw [hm', hk', hkv]
     exact hrun
    ·rw [ZxA]; exact hok
   ·exact h.elim
  ·exact h.elim
 ·exact h.elim
end
end
end Go.Eng
namespace Go.Eng
noncomputable section
open Go.RowKit (Below)
theorem Zb9 {need : Nat} : ∀ (r c : Nat), 256 <= c -> c <= 2 * need -> Builtin.growBy need r c <= 2 * need
 | 0, c, _, h => h
 | r + 1, c, h0, h => by
  simp only [Builtin.growBy]
  split
  ·exact h
  ·exact Zb9 r _ (by omega) (by omega)
theorem ZcJ {need old : Nat} (h : old < need) : Builtin.nextslicecap need old <= 2 * need := by
 unfold Builtin.nextslicecap
 split
 ·omega
 ·split
  ·omega
  ·exact Zb9 _ _ (by omega) (by omega)
section
variable {P : Program}
theorem ZaL (n : Nat) (w : World) : (askRoom n).run P w = .ok () w := by
 unfold askRoom; split <;> rfl
theorem Zhf (need old : Nat) (e : TypeId) (w : World) : ∃ c, need <= c /\ (choose (.appendCap need old e)).run P w = .ok c { w with drawn := w.drawn + 1 } := by
 refine ⟨(Question.appendCap need old e).cut (w.tape w.drawn (.appendCap need old e)), by simp [Question.cut], ?_⟩
 simp [choose, Sem.run, Question.forced]
structure Src (P : Program) (size : Nat) (v : Value) (n : Nat) (cells : List Value) (w : World) : Prop where
 len : ∀ w', (Builtin.lenOf v).run P w' = .ok n w'
 room : cells.length = n * size
 first : ∀ m, m <= n -> (Builtin.firstCells size m v).run P w = .ok (cells.take (m * size)).toArray w
structure SrcL (P : Program) (size : Nat) (v : Value) (n mx : Nat) (cells : List Value) (w : World) : Prop where
 len : ∀ w', (Builtin.lenOf v).run P w' = .ok n w'
 room : mx * size <= cells.length
 first : ∀ m, m <= mx -> (Builtin.firstCells size m v).run P w = .ok (cells.take (m * size)).toArray w
theorem Src.lim {P : Program} {size : Nat} {v : Value} {n : Nat} {cells : List Value} {w : World} (h : Src P size v n cells w) {mx : Nat} (hm : mx <= n) : SrcL P size v n mx cells w :=
 ⟨h.len, by rw [h.room]; exact ZJe _ hm, fun m h1 => h.first m (Nat.le_trans h1 hm)⟩
end
section
variable {G : Type} (S : Sig G) (ρ : Env G) (w0 : World) {P : Program}
theorem Zg7 {F : Zd} {w : World} {hp : List Ch} {asm : List SX} (ha : ∀ x ∈ asm, (x.den S ρ).tP) (hs : Sat w0 (Zg (Ze S ρ w0 hp) F) w) {sv : SV} {v : Value} (hv : sv.R S ρ v) {e : En} {n y : SX} {ns : List SX}
  (h : ZzL hp asm sv = some (e, n, y, ns)) (hn : ∀ x ∈ ns, (x.den S ρ).tP) : 0 <= (n.den S ρ).tI /\ Src P e.stride v (n.den S ρ).tI.toNat (e.vals (y.den S ρ)) w := by
 unfold ZzL at h
 split at h
 ·rename_i b o k z l c s
  simp only [ZJr] at h
  split at h
  ·cases h
  ·obtain ⟨⟨e', x⟩, hf, h⟩ := Zb h
   cases h
   obtain ⟨n1, hn1⟩ := Za S ρ ha hn
   obtain ⟨n2, hn2⟩ := Za S ρ ha hn1
   obtain ⟨n3, hn3⟩ := Za S ρ ha hn2
   obtain ⟨n4, _⟩ := Za S ρ ha hn3
   rw [eLe_den] at n1 n2 n3 n4
   rw [SX.mk2_den, En.lenX_den] at n4
   simp only [SX.den, ap2, U.tIi] at n1 n2 n3 n4
   obtain ⟨hst, hb, hc⟩ := Zcx S ρ w0 hf hs
   have hv' := R_one S ρ hv
   simp only [SC.den] at hv'
   show 0 <= (n.den S ρ).tI /\ Src P e'.stride v (n.den S ρ).tI.toNat (e'.vals ((e'.takeX (e'.dropX x k) n).den S ρ)) w
   have hvals : e'.vals ((e'.takeX (e'.dropX x k) n).den S ρ) = ((e'.vals (x.den S ρ)).drop ((k.den S ρ).tI.toNat * e'.stride)).take ((n.den S ρ).tI.toNat * e'.stride) := by rw [En.vals_take, En.vals_drop]
   have hlenx := En.vals_length e' (x.den S ρ)
   generalize hN : (n.den S ρ).tI.toNat = N at *
   generalize hK : (k.den S ρ).tI.toNat = Kk at *
   have hKN : Kk * e'.stride + N * e'.stride <= (e'.vals (x.den S ρ)).length := by
    rw [hlenx, <- Nat.add_mul]; exact ZJe _ (by omega)
   refine ⟨n2, fun w' => ?_, ?_, fun m hm => ?_⟩
   ·rw [hv']; simp [Builtin.lenOf]
   ·rw [hvals, ZJp, ZJB]; omega
   ·rw [hvals, hv']
    have hmN : m * e'.stride <= N * e'.stride := ZJe _ hm
    rw [List.take_take, Nat.min_eq_left hmN]
    by_cases hneg : (b.den S ρ).tI < 0
    ·simp only [if_pos hneg]
     have : e'.vals (x.den S ρ) = [] := Classical.byContradiction fun h => by have := hb h; omega
     simp [Builtin.firstCells, this]
    ·simp only [if_neg hneg, Builtin.firstCells]
     have hl : (((e'.vals (x.den S ρ)).drop (Kk * e'.stride)).take (m * e'.stride)).length = m * e'.stride := by
      rw [ZJp, ZJB]; omega
     have := Y4 (P := P) ⟨(b.den S ρ).tI.toNat, (o.den S ρ).tI.toNat + (if (c.den S ρ).tI = 0 then (z.den S ρ).tI else (k.den S ρ).tI).toNat * s, none⟩
      (((e'.vals (x.den S ρ)).drop (Kk * e'.stride)).take (m * e'.stride)) w (fun j u hj => by
       have hj' : j < m * e'.stride := by
        rcases ZJh j (m * e'.stride) with h' | h'
        ·exact h'
        ·rw [List.getElem?_eq_none (by omega)] at hj; cases hj
       rw [List.getElem?_take_of_lt hj', ZJM] at hj
       have hc0 : ¬ (c.den S ρ).tI = 0 := by
        intro h0
        have : N = 0 := by omega
        have hm0 : m = 0 := by omega
        rw [hm0, Nat.zero_mul] at hj'
        exact absurd hj' (Nat.not_lt_zero _)
       rw [if_neg hc0, hK, <- hst]
       have := hc _ _ hj
       simp only [Addr.add_eq]
       rw [Nat.add_assoc]; exact this)
     rw [hl] at this
     exact this
 ·rename_i t
  cases h
  have hv' := R_one S ρ hv
  simp only [SC.den] at hv'
  rw [SX.mk1_den]
  simp only [SX.den, ap1, U.tIi]
  refine ⟨by omega, fun w' => ?_, ?_, fun m hm => ?_⟩
  ·rw [hv']; simp [Builtin.lenOf, ByteArray.size]
  ·simp [En.vals, En.stride]
  ·rw [hv']
   simp [Builtin.firstCells, En.vals, En.stride]
 ·cases h
theorem Znq {F : Zd} {w : World} {hp : List Ch} {asm : List SX} (ha : ∀ x ∈ asm, (x.den S ρ).tP) (hs : Sat w0 (Zg (Ze S ρ w0 hp) F) w) {sv : SV} {v : Value} (hv : sv.R S ρ v) {e : En} {n y lim : SX} {ns : List SX}
  (h : ZCe hp asm lim sv = some (e, n, y, ns)) (hn : ∀ x ∈ ns, (x.den S ρ).tP) (hl0 : 0 <= (lim.den S ρ).tI) : 0 <= (n.den S ρ).tI /\ SrcL P e.stride v (n.den S ρ).tI.toNat (min (n.den S ρ).tI.toNat (lim.den S ρ).tI.toNat) (e.vals (y.den S ρ)) w := by
 unfold ZCe at h
 split at h
 ·rename_i b o k z l c s
  simp only [ZJr] at h
  split at h
  ·cases h
  ·obtain ⟨⟨e', x⟩, hf, h⟩ := Zb h
   cases h
   obtain ⟨n1, hn1⟩ := Za S ρ ha hn
   obtain ⟨n2, hn2⟩ := Za S ρ ha hn1
   obtain ⟨n3, hn3⟩ := Za S ρ ha hn2
   obtain ⟨n4, _⟩ := Za S ρ ha hn3
   have hM : ((SX.mk2 51 n lim).den S ρ).tI = ((min (n.den S ρ).tI.toNat (lim.den S ρ).tI.toNat : Nat) : Int) := by
    rw [eLe_den] at n2
    simp only [SX.den, U.tIi] at n2
    rw [SX.mk2_den]
    simp only [SX.den, ap2, U.tIi]; omega
   have hM' : ((SX.mk2 40 k (SX.mk2 51 n lim)).den S ρ).tI = (k.den S ρ).tI + ((SX.mk2 51 n lim).den S ρ).tI := by
    rw [SX.mk2_den]; rfl
   rw [eLe_den] at n1 n2 n3 n4
   rw [En.lenX_den, hM', hM] at n4
   simp only [SX.den, ap2, U.tIi] at n1 n2 n3 n4
   obtain ⟨hst, hb, hc⟩ := Zcx S ρ w0 hf hs
   have hv' := R_one S ρ hv
   simp only [SC.den] at hv'
   show 0 <= (n.den S ρ).tI /\ SrcL P e'.stride v (n.den S ρ).tI.toNat (min (n.den S ρ).tI.toNat (lim.den S ρ).tI.toNat) (e'.vals ((e'.takeX (e'.dropX x k) (SX.mk2 51 n lim)).den S ρ)) w
   have hvals : e'.vals ((e'.takeX (e'.dropX x k) (SX.mk2 51 n lim)).den S ρ) = ((e'.vals (x.den S ρ)).drop ((k.den S ρ).tI.toNat * e'.stride)).take ((min (n.den S ρ).tI.toNat (lim.den S ρ).tI.toNat) * e'.stride) := by
    rw [En.vals_take, En.vals_drop, hM, ZJu]
   have hlenx := En.vals_length e' (x.den S ρ)
   generalize hN : (n.den S ρ).tI.toNat = N at *
   generalize hK : (k.den S ρ).tI.toNat = Kk at *
   generalize hMx : min N (lim.den S ρ).tI.toNat = Mx at *
   have hKN : Kk * e'.stride + Mx * e'.stride <= (e'.vals (x.den S ρ)).length := by
    rw [hlenx, <- Nat.add_mul]; exact ZJe _ (by omega)
   refine ⟨n2, fun w' => ?_, ?_, fun m hm => ?_⟩
   ·rw [hv']; simp [Builtin.lenOf]
   ·rw [hvals, ZJp, ZJB]; omega
   ·rw [hvals, hv']
    have hmN : m * e'.stride <= Mx * e'.stride := ZJe _ hm
    rw [List.take_take, Nat.min_eq_left hmN]
    by_cases hneg : (b.den S ρ).tI < 0
    ·simp only [if_pos hneg]
     have : e'.vals (x.den S ρ) = [] := Classical.byContradiction fun h => by have := hb h; omega
     simp [Builtin.firstCells, this]
    ·simp only [if_neg hneg, Builtin.firstCells]
     have hl : (((e'.vals (x.den S ρ)).drop (Kk * e'.stride)).take (m * e'.stride)).length = m * e'.stride := by
      rw [ZJp, ZJB]; omega
     have := Y4 (P := P) ⟨(b.den S ρ).tI.toNat, (o.den S ρ).tI.toNat + (if (c.den S ρ).tI = 0 then (z.den S ρ).tI else (k.den S ρ).tI).toNat * s, none⟩
      (((e'.vals (x.den S ρ)).drop (Kk * e'.stride)).take (m * e'.stride)) w (fun j u hj => by
       have hj' : j < m * e'.stride := by
        rcases ZJh j (m * e'.stride) with h' | h'
        ·exact h'
        ·rw [List.getElem?_eq_none (by omega)] at hj; cases hj
       rw [List.getElem?_take_of_lt hj', ZJM] at hj
       have hc0 : ¬ (c.den S ρ).tI = 0 := by
        intro h0
        have : N = 0 := by omega
        have hm0 : m = 0 := by omega
        rw [hm0, Nat.zero_mul] at hj'
        exact absurd hj' (Nat.not_lt_zero _)
       rw [if_neg hc0, hK, <- hst]
       have := hc _ _ hj
       simp only [Addr.add_eq]
       rw [Nat.add_assoc]; exact this)
     rw [hl] at this
     exact this
 ·cases h
theorem Zra {F : Zd} {w : World} {hp : List Ch} {asm : List SX} (ha : ∀ x ∈ asm, (x.den S ρ).tP) (hs : Sat w0 (Zg (Ze S ρ w0 hp) F) w) {sv : SV} {v : Value} (hv : sv.R S ρ v) {b off k z l cc : SX} {sz : Nat} {e : En} {n y : SX} {ns : List SX}
  (h : srcC hp asm (.one (.slice b off k z l cc sz)) sv = some (e, n, y, ns)) (hn : ∀ x ∈ ns, (x.den S ρ).tP) (hl0 : 0 <= (l.den S ρ).tI) :
  0 <= (n.den S ρ).tI /\ SrcL P e.stride v (n.den S ρ).tI.toNat (min (n.den S ρ).tI.toNat (l.den S ρ).tI.toNat) (e.vals (y.den S ρ)) w := by
 unfold srcC at h
 split at h
 ·rename_i lim hlim
  have : lim = l := by
   unfold Zur at hlim
   split at hlim
   ·rename_i b1 o1 k1 z1 l1 c1 s1 b2 o2 k2 z2 l2 c2 s2 h2
    have e : l = l1 := by injection h2 with h3; injection h3
    cases hb : SX.bq b1 b2
    ·rw [hb] at hlim; cases hlim
    ·rw [hb] at hlim; cases hlim; exact e.symm
   ·cases hlim
  subst this
  exact Znq S ρ w0 ha hs hv h hn hl0
 ·obtain ⟨h1, h2⟩ := Zg7 S ρ w0 (P := P) ha hs hv h hn
  exact ⟨h1, h2.lim (Nat.min_le_left _ _)⟩
end
section
variable {P : Program}
def Zan (d : TypeDesc) : Bool := match d with | .int _ => false | _ => true
theorem Zct {d : TypeDesc} : Zan d = true -> Builtin.append_.match_1 (fun _ => Bool) d (fun _ => true) (fun _ => false) = false := by
 intro h
 cases d <;> first | rfl | (simp [Zan] at h; done)
theorem YL {ts : Array TypeId} {t t2 et ty : TypeId} {d2 : TypeDesc} {sz n sLen sCap : Nat} {base : Option Addr} {x : Value} {cells : List Value} {w w' : World} (h0 : ts[0]? = some t) (h1 : ts[1]? = some t2)
  (ht : P.underlying t = some (.slice et)) (ht2 : P.underlying t2 = some d2) (hd : Zan d2 = true) (hsz : Za9 P et = some sz) (hx : Src P sz x n cells w) (hfit : sLen + n <= sCap)
  (hrun : match base with | some a => (storeCells (a.add (sLen * sz)) cells).run P w = .ok () w' | none => w' = w) :
  (Builtin.append_ ts ty #[.slice base sLen sCap, x]).run P w = .ok (.slice base (sLen + n) sCap) w' := by
 have hf := hx.first n (ZJd _)
 rw [ZJz (by rw [hx.room]; exact ZJd _)] at hf
 have hd' := Zct hd
 cases base with
 | none => subst hrun; simp [Builtin.append_, h0, h1, run_underlying ht, run_underlying ht2, Zm hsz, hx.len, hfit, hf, hd']
 | some a => simp [Builtin.append_, h0, h1, run_underlying ht, run_underlying ht2, Zm hsz, hx.len, hfit, hf, hrun, hd']
theorem ZaF {ts : Array TypeId} {t t2 et ty : TypeId} {d2 : TypeDesc} {n sLen sCap : Nat} {base : Option Addr} {x z : Value} {i : TypeInfo} {cells old : List Value} {w : World} (h0 : ts[0]? = some t) (h1 : ts[1]? = some t2)
  (ht : P.underlying t = some (.slice et)) (ht2 : P.underlying t2 = some d2) (hd : Zan d2 = true) (hi : P.info? et = some i) (hz : i.zero = some z) (hzs : z.cells.size = i.size) (hb : 1 <= i.bytes) (hx : Src P i.size x n cells w.drew) (hfit : ¬ sLen + n <= sCap)
  (hold : (Builtin.firstCells i.size sLen (.slice base sLen sCap)).run P w.drew = .ok old.toArray w.drew) (hroom : (sLen + n) * i.bytes <= 140737488355328) :
  ∃ c spare, sLen + n <= c /\ spare.length = (c - (sLen + n)) * i.size /\ (Builtin.append_ ts ty #[.slice base sLen sCap, x]).run P w =
   .ok (.slice (some ⟨w.heap.size, 0, none⟩) (sLen + n) c) { w.drew with heap := w.heap.push (.cells (old ++ cells ++ spare).toArray et) } := by
 have hf := hx.first n (ZJd _)
 rw [ZJz (by rw [hx.room]; exact ZJd _)] at hf
 refine ⟨(Question.appendCap (sLen + n) sCap et).cut (w.tape w.drawn (.appendCap (sLen + n) sCap et)), (Builtin.zeroCells z.cells ((Question.appendCap (sLen + n) sCap et).cut (w.tape w.drawn (.appendCap (sLen + n) sCap et)) - (sLen + n))).toList, by simp [Question.cut], by simp [Builtin.zeroCells, hzs], ?_⟩
 have hsz := Zm (ZgU hi)
 have hcap := ZcJ (show sCap < sLen + n by omega)
 have hcapb : ¬ (281474976710656 < Builtin.nextslicecap (sLen + n) sCap * i.bytes) := by
  have : Builtin.nextslicecap (sLen + n) sCap * i.bytes <= 2 * (sLen + n) * i.bytes := ZJe _ hcap
  have e : 2 * (sLen + n) * i.bytes = 2 * ((sLen + n) * i.bytes) := Nat.mul_assoc _ _ _
  omega
 have hnb : ¬ i.bytes = 0 := by omega
 have hd' := Zct hd
 simp [Builtin.append_, h0, h1, run_underlying ht, run_underlying ht2, hsz, hx.len, hfit, typeInfo, hi, hnb, hcapb, hd', Question.forced, ZaL, hold, hf, YS hi hz, ZV]
 have harr : ∀ Z : Array Value, old.toArray ++ (cells.toArray ++ Z) = (old ++ (cells ++ Z.toList)).toArray := fun Z => by apply Array.ext'; simp
 rw [harr]
 rfl
end
end
end Go.Eng
namespace Go.Eng
noncomputable section
open Go.RowKit (Below)
section
variable {P : Program}
theorem Zj4 {ts : Array TypeId} {t t2 et ty : TypeId} {k2 : IntKind} {m sLen sCap : Nat} {base : Option Addr} {z : Value} {i : TypeInfo} {old : List Value} {w : World} (ke : IntKind) (h0 : ts[0]? = some t) (h1 : ts[1]? = some t2)
  (ht : P.underlying t = some (.slice et)) (ht2 : P.underlying t2 = some (.int k2)) (hi : P.info? et = some i) (hz : i.zero = some z) (hzs : z.cells.size = i.size) (hb : 1 <= i.bytes) (h1s : 1 <= i.size) (hfit : ¬ sLen + m <= sCap)
  (hold : (Builtin.firstCells i.size sLen (.slice base sLen sCap)).run P w.drew = .ok old.toArray w.drew) (hroom : (sLen + m) * i.bytes <= 140737488355328) :
  ∃ c spare, sLen + m <= c /\ spare.length = (c - (sLen + m)) * i.size /\ (Builtin.append_ ts ty #[.slice base sLen sCap, .int ke (m : Nat)]).run P w =
   .ok (.slice (some ⟨w.heap.size, 0, none⟩) (sLen + m) c) { w.drew with heap := w.heap.push (.cells (old ++ (List.replicate m z.cells.toList).flatten ++ spare).toArray et) } := by
 refine ⟨(Question.appendCap (sLen + m) sCap et).cut (w.tape w.drawn (.appendCap (sLen + m) sCap et)), (Builtin.zeroCells z.cells ((Question.appendCap (sLen + m) sCap et).cut (w.tape w.drawn (.appendCap (sLen + m) sCap et)) - (sLen + m))).toList, by simp [Question.cut], by simp [Builtin.zeroCells, hzs], ?_⟩
 have hsz := Zm (ZgU hi)
 have hcap := ZcJ (show sCap < sLen + m by omega)
 have hcapb : ¬ (281474976710656 < Builtin.nextslicecap (sLen + m) sCap * i.bytes) := by
  have : Builtin.nextslicecap (sLen + m) sCap * i.bytes <= 2 * (sLen + m) * i.bytes := ZJe _ hcap
  have e : 2 * (sLen + m) * i.bytes = 2 * ((sLen + m) * i.bytes) := Nat.mul_assoc _ _ _
  omega
 have hm47 : sLen + m <= 140737488355328 := by
  have : (sLen + m) * 1 <= (sLen + m) * i.bytes := Nat.mul_le_mul_left _ hb
  omega
 have hmb : m * i.bytes <= 140737488355328 := by
  have : m * i.bytes <= (sLen + m) * i.bytes := ZJe _ (by omega)
  omega
 have hw : IntKind.i64.wrap (m : Nat) = (m : Nat) := Zcg (by simp [IntKind.min, IntKind.max, IntKind.bits, IntKind.signed]; omega)
 have hbig : ¬ (281474976710656 < (m : Int) * (i.bytes : Int)) := by
  have : ((m * i.bytes : Nat) : Int) = (m : Int) * (i.bytes : Int) := Int.natCast_mul _ _
  omega
 have hmax : ¬ (IntKind.i64.max < ((sLen + m : Nat) : Int)) := by simp [IntKind.max, IntKind.bits, IntKind.signed]; omega
 have hneg : ¬ ((m : Int) < 0) := by omega
 have hmax' : ¬ (9223372036854775807 < (sLen : Int) + (m : Int)) := by omega
 have hzc : (Builtin.zeroCells z.cells m).toList = (List.replicate m z.cells.toList).flatten := by unfold Builtin.zeroCells; exact Z4 _ _
 have hz0 : m * i.size = 0 -> (List.replicate m z.cells.toList).flatten = [] := by
  intro h
  rcases Nat.mul_eq_zero.1 h with h | h
  ·simp [h]
  ·omega
 by_cases hm0 : m * i.size = 0
 ·simp [Builtin.append_, h0, h1, run_underlying ht, run_underlying ht2, hsz, Zex, hw, hneg, typeInfo, hi, hbig, hfit, hmax, hmax', hcapb, Question.forced, ZaL, hold, hm0, YS hi hz, ZV, hz0 hm0]
  have harr : ∀ Z : Array Value, old.toArray ++ Z = (old ++ Z.toList).toArray := fun Z => by apply Array.ext'; simp
  rw [harr]
  rfl
 ·simp [Builtin.append_, h0, h1, run_underlying ht, run_underlying ht2, hsz, Zex, hw, hneg, typeInfo, hi, hbig, hfit, hmax, hmax', hcapb, Question.forced, ZaL, hold, hm0, YS hi hz, ZV]
  have harr : ∀ Y Z : Array Value, old.toArray ++ (Y ++ Z) = (old ++ (Y.toList ++ Z.toList)).toArray := fun Y Z => by apply Array.ext'; simp
  rw [harr, hzc]
  rfl
def YB (b : Int) : Option Addr := if b < 0 then none else some ⟨b.toNat, 0, none⟩
theorem Zr3 {w0 w : World} {fz : Bool} {H : Zd} {b : Int} {l cap s : Nat} {A spare : List Value} (hs : Sat w0 (Zg (row b.toNat 0 (A ++ spare) fz) H) w) (hl : l * s <= A.length) (hb : 0 <= b \/ cap = 0) (hcap : (A ++ spare).length = cap * s) :
  (Builtin.firstCells s l (.slice (YB b) l cap)).run P w = .ok (A.take (l * s)).toArray w := by
 unfold YB
 by_cases hneg : b < 0
 ·have hc : cap = 0 := hb.resolve_left (by omega)
  subst hc
  simp at hcap
  simp [hneg, Builtin.firstCells, hcap]
 ·simp only [if_neg hneg, Builtin.firstCells]
  have hlen : (A.take (l * s)).length = l * s := by rw [ZJp]; omega
  have := Y4 (P := P) ⟨b.toNat, 0, none⟩ (A.take (l * s)) w (fun j u hj => by
   have hj' : j < l * s := by
    rcases ZJh j (l * s) with h' | h'
    ·exact h'
    ·rw [List.getElem?_eq_none (by omega)] at hj; cases hj
   rw [List.getElem?_take_of_lt hj'] at hj
   have hjA : j < (A ++ spare).length := by rw [ZJs]; omega
   have := (hs.load hjA).1
   rw [Addr.add_eq]
   rw [this, List.getElem_append_left (by omega)]
   exact (List.getElem?_eq_some_iff.1 hj).2 ▸ rfl)
  rw [hlen] at this
  exact this
theorem ZmR {w0 w : World} {fz : Bool} {H : Zd} {ts : Array TypeId} {t t2 et ty : TypeId} {d2 : TypeDesc} {b : Int} {n l cap : Nat} {x z : Value} {i : TypeInfo} {A spare cells : List Value} (h0 : ts[0]? = some t) (h1 : ts[1]? = some t2)
  (ht : P.underlying t = some (.slice et)) (ht2 : P.underlying t2 = some d2) (hd : Zan d2 = true) (hi : P.info? et = some i) (hz : i.zero = some z) (hzs : z.cells.size = i.size) (hby : 1 <= i.bytes)
  (hs : Sat w0 (Zg (row b.toNat 0 (A ++ spare) fz) H) w) (hl : l * i.size <= A.length) (hb : 0 <= b \/ cap = 0) (hcap : (A ++ spare).length = cap * i.size) (hlc : l <= cap)
  (hx : Src P i.size x n cells w) (hx' : Src P i.size x n cells w.drew) (hone : ∀ v ∈ cells, ZyZ v = true) (hroom : (l + n) * i.bytes <= 140737488355328) :
  ∃ (w' : World) (b' : Int) (c' : Nat) (spare' : List Value), (Builtin.append_ ts ty #[.slice (YB b) l cap, x]).run P w = .ok (.slice (YB b') (l + n) c') w' /\ l + n <= c' /\ (0 <= b' \/ l + n = 0) /\ (0 <= b' \/ c' = 0) ∧
   (A.take (l * i.size) ++ cells ++ spare').length = c' * i.size /\ Sat w0 (Zg (row b'.toNat 0 (A.take (l * i.size) ++ cells ++ spare') fz) H) w' := by
 have hcl := hx.room
 by_cases hfit : l + n <= cap
 ·by_cases hneg : b < 0
  ·have hc : cap = 0 := hb.resolve_left (by omega)
   subst hc
   have hn0 : n = 0 := by omega
   have hl0 : l = 0 := by omega
   subst hn0; subst hl0
   have hA : A = [] /\ spare = [] := by simpa using hcap
   have hce : cells = [] := by simpa using hcl
   refine ⟨w, b, 0, [], ?_, by omega, .inr rfl, .inr rfl, by simp [hA, hce], ?_⟩
   ·refine YL h0 h1 ht ht2 hd (ZgU hi) hx (by omega) ?_
    simp [YB, hneg]
   ·rw [hA.1, hA.2] at hs
    simpa [hA.1, hce] using hs
  ·have hroom2 : l * i.size + n * i.size <= cap * i.size := by rw [<- Nat.add_mul]; exact ZJe _ hfit
   obtain ⟨w', hrun, hs'⟩ := Ye (P := P) w0 b.toNat 0 (l * i.size) fz H cells 0 (A ++ spare) w hs (by rw [hcap, hcl]; omega) hone
   have e1 : (A ++ spare).take (l * i.size + 0) = A.take (l * i.size) := by rw [Nat.add_zero, List.take_append_of_le_length hl]
   rw [e1] at hs'
   refine ⟨w', b, cap, (A ++ spare).drop (l * i.size + 0 + cells.length), ?_, hfit, .inl (by omega), .inl (by omega), ?_, hs'⟩
   ·refine YL h0 h1 ht ht2 hd (ZgU hi) hx hfit ?_
    simp only [YB, if_neg hneg, Addr.add_eq]
    exact hrun
   ·rw [ZJs, ZJs, ZJp, ZJB, hcap, hcl]
    omega
 ·obtain ⟨c, sp, hc, hsp, hrun⟩ := ZaF (P := P) (ty := ty) h0 h1 ht ht2 hd hi hz hzs hby hx' hfit (Zr3 (P := P) (w := w.drew) (Sat.drew hs _) hl hb hcap) hroom
  refine ⟨{ w.drew with heap := w.heap.push (.cells (A.take (l * i.size) ++ cells ++ sp).toArray et) }, (w.heap.size : Int), c, sp, ?_, hc, .inl (by omega), .inl (by omega), ?_, ?_⟩
  ·rw [hrun]
   simp only [YB]
   rw [if_neg (by omega)]
   simp
  ·rw [ZJs, ZJs, ZJp, hsp, hcl, Nat.min_eq_left hl, <- Nat.add_mul, <- Nat.add_mul]
   congr 1; omega
  ·have := Sat.new (Sat.drew hs.drop (w.drawn + 1)) (A.take (l * i.size) ++ cells ++ sp) et fz
   exact this
end
section
variable {G : Type} (S : Sig G) (ρ : Env G) (w0 : World) {P : Program}
theorem den_f2' (f : Nat) (a b : SX) : (SX.f2 f a b).den S ρ = ap2 f (a.den S ρ) (b.den S ρ) := rfl
theorem Fd.val_one (f : Fd) (r : List Int) : ZyZ (f.val r) = true := by
 cases f <;> simp only [Fd.val] <;> first | rfl | (split <;> rfl)
theorem ZgP : ∀ (fs : List Fd) (r : List Int), ∀ v ∈ Zs fs r, ZyZ v = true
 | [], _, v, h => by cases h
 | f :: fs, r, v, h => by
  rcases List.mem_cons.1 h with rfl | h
  ·exact Fd.val_one f r
  ·exact ZgP fs _ v h
theorem En.vals_one (e : En) (u : U G) : ∀ v ∈ e.vals u, ZyZ v = true := by
 intro v h
 cases e with
 | ints k => simp only [En.vals, List.mem_map] at h; obtain ⟨a, _, rfl⟩ := h; rfl
 | bytes => simp only [En.vals, List.mem_map] at h; obtain ⟨a, _, rfl⟩ := h; rfl
 | rows fs => simp only [En.vals, List.mem_flatMap] at h; obtain ⟨a, _, h⟩ := h; exact ZgP fs a v h
theorem Zde {t : TypeId} {n : Nat} (h : ZeZ P t n = true) : ∃ i z, P.info? t = some i /\ i.zero = some z /\ z.cells.size = n /\ 1 <= n := by
 unfold ZeZ at h
 split at h
 ·rename_i i hi; split at h
  ·rename_i z hz
   cases h1 : Nat.beq z.cells.size n
   ·rw [h1] at h; cases h
   ·rw [h1] at h; exact ⟨i, z, hi, hz, ZJo h1, ZJA h⟩
  ·cases h
 ·cases h
theorem Zaz {F : Zd} {w : World} {hp : List Ch} {asm : List SX} (ha : ∀ x ∈ asm, (x.den S ρ).tP) (hs : Sat w0 (Zg (Ze S ρ w0 hp) F) w) {sv : SV} {v : Value} (hv : sv.R S ρ v) {en e : En} {n y : SX} {ns : List SX}
  (h : ZEV en hp asm sv = some (e, n, y, ns)) (hn : ∀ x ∈ ns, (x.den S ρ).tP) : 0 <= (n.den S ρ).tI /\ Src P e.stride v (n.den S ρ).tI.toNat (e.vals (y.den S ρ)) w := by
 unfold ZEV at h
 split at h
 ·cases h
  have hv' := R_one S ρ hv
  simp only [SC.den] at hv'
  rw [if_pos (by simp only [SX.den, U.tIi]; exact Int.negSucc_lt_zero _)] at hv'
  simp only [SX.den, U.tIi] at hv'
  refine ⟨by simp [SX.den], fun w' => by rw [hv']; simp [Builtin.lenOf, SX.den], by simp [YE, SX.den], fun m hm => ?_⟩
  rw [hv']; simp [Builtin.firstCells, YE]
 ·rename_i x i p
  cases h
  have hv' := R_one S ρ hv
  obtain ⟨hq, _⟩ := Za S ρ ha hn
  rw [Za1, ZbP] at hq
  have hq := beq_iff_eq.1 (show (_ == _) = true from hq)
  have e0 : ∀ L : List Int, (L.drop p).getD 3 0 = L.getD (p + 3) 0 := fun L => by rw [ZJn, ZJM, ZJn]
  have hq : (((x.den S ρ).tR.getD (i.den S ρ).tI.toNat []).drop p).getD 3 0 = 0 := by rw [e0]; exact hq
  simp only [SC.den, opqV] at hv'
  rw [hq] at hv'
  refine ⟨by simp [SX.den], fun w' => by rw [hv']; simp [Builtin.lenOf, SX.den], by simp [YE, SX.den], fun m hm => ?_⟩
  have h0 : ((SX.int 0).den S ρ).tI.toNat = 0 := by simp [SX.den]
  have hm0 : m = 0 := by omega
  subst hm0
  rw [hv']
  split <;> simp [Builtin.firstCells, YE, loadCells, loadCellsFrom]
 ·exact Zg7 S ρ w0 ha hs hv h hn
theorem Zi4 {F : Zd} {w : World} {hp : List Ch} {asm : List SX} {ts : Array TypeId} {t t2 ty : TypeId} {d2 : TypeDesc} {dst src : SV} {dv xv : Value} (ha : ∀ x ∈ asm, (x.den S ρ).tP) (hs : Sat w0 (Zg (Ze S ρ w0 hp) F) w)
  (h0 : ts[0]? = some t) (h1 : ts[1]? = some t2) (ht2 : P.underlying t2 = some d2) (hd : Zan d2 = true) (hdv : dst.R S ρ dv) (hxv : src.R S ρ xv)
  {ns : List SX} {rest : List Ch} {en : En} {x n c : SX} {sz : Nat} (h : Zmy P hp asm t dst src = some (ns, rest, en, x, n, c, sz)) (hn : ∀ x ∈ ns, (x.den S ρ).tP) :
  sz = en.stride /\ (∀ d ∈ rest, d ∈ hp) /\ 0 <= (n.den S ρ).tI /\ ∃ (w' : World) (b' : Int) (c' : Nat), (Builtin.append_ ts ty #[dv, xv]).run P w = .ok (.slice (YB b') (n.den S ρ).tI.toNat c') w' /\ (n.den S ρ).tI <= c' /\ (0 <= b' \/ (n.den S ρ).tI = 0) ∧
   Sat w0 (Zg (ZO S en (.int b') (x.den S ρ) (.int c')) (Zg (Ze S ρ w0 rest) F)) w' := by
 unfold Zmy at h
 split at h
 ·rename_i b o k z l c0 s et ht
  obtain ⟨bytes, hby, hA⟩ := Zb h
  clear h
  obtain ⟨en', hen, hB⟩ := Zb hA
  clear hA
  obtain ⟨sz', hsz, h⟩ := Zb hB
  clear hB
  cases c1 : ZeZ P et sz'
  ·rw [c1] at h; cases h
  cases c2 : Nat.ble 1 bytes
  ·rw [c1, c2] at h; cases h
  cases c3 : Nat.beq sz' en'.stride
  ·rw [c1, c2, c3] at h; cases h
  cases c4 : SX.bq k (.int 0)
  ·rw [c1, c2, c3, c4] at h; cases h
  cases c5 : SX.bq z (.int 0)
  ·rw [c1, c2, c3, c4, c5] at h; cases h
  rw [c1, c2, c3, c4, c5] at h
  simp only [cond_true] at h
  obtain ⟨⟨e2, n0, y, ns0⟩, hsrc, hA⟩ := Zb h
  clear h
  simp only at hA
  have h := hA
  clear hA
  cases c6 : decide (e2 = en')
  ·rw [c6] at h; cases h
  rw [c6] at h
  simp only [cond_true] at h
  have he2 := of_decide_eq_true c6
  subst he2
  obtain ⟨⟨e1, xx, cap, rest0⟩, harr, hA⟩ := Zb h
  clear h
  simp only at hA
  have h := hA
  clear hA
  cases c7 : decide (e1 = e2)
  ·rw [c7] at h; cases h
  rw [c7] at h
  simp only [cond_true] at h
  have he1 := of_decide_eq_true c7
  subst he1
  have hk := SX.bq_eq c4
  have hz := SX.bq_eq c5
  subst hk; subst hz
  obtain ⟨i, zv, hi, hzv, hzs, hz1⟩ := Zde c1
  obtain ⟨i', hi', hb⟩ := ZaZ hby
  rw [hi] at hi'; cases hi'
  obtain ⟨i', hi', hsi⟩ := YW hsz
  rw [hi] at hi'; cases hi'
  have hse := ZJo c3
  have hb1 := ZJA c2
  -- what stands there: the array, or nothing
  have hstart : ((bif Zn b then true else (bif SX.bq o (.int 0) then SX.bq c0 cap else false)) = true) -> ∃ spare : List Value, (∀ d ∈ rest0, d ∈ hp) /\ (e1.vals (xx.den S ρ)).length + spare.length = (cap.den S ρ).tI.toNat * e1.stride /\ 0 <= (cap.den S ρ).tI ∧
    (0 <= (b.den S ρ).tI \/ (cap.den S ρ).tI = 0) /\ Sat w0 (Zg (row (b.den S ρ).tI.toNat 0 (e1.vals (xx.den S ρ) ++ spare) e1.nf) (Zg (Ze S ρ w0 rest0) F)) w /\ c0 = cap ∧
    dv = .slice (YB (b.den S ρ).tI) (l.den S ρ).tI.toNat (cap.den S ρ).tI.toNat := by
   intro hcond
   have hdv' := R_one S ρ hdv
   simp only [SC.den, SX.den, U.tIi, ite_self] at hdv'
   cases hnl : Zn b
   ·rw [hnl] at harr hcond
    simp only [cond_false] at harr hcond
    cases ho : SX.bq o (.int 0)
    ·rw [ho] at hcond; cases hcond
    ·rw [ho] at hcond
     simp only [cond_true] at hcond
     have ho := SX.bq_eq ho
     have hcc := SX.bq_eq hcond
     subst ho; subst hcc
     obtain ⟨l1, l2, hl, hr⟩ := YM harr
     have hsat := hs
     rw [hl, Yf, Zc] at hsat
     obtain ⟨spare, hsat⟩ := ZaB hsat
     obtain ⟨e1', hsat⟩ := Zt hsat
     obtain ⟨e2', hsat⟩ := Zt hsat
     obtain ⟨e3', hsat⟩ := Zt hsat
     refine ⟨spare, ?_, e1', e2', e3', by rw [hr]; exact hsat, rfl, ?_⟩
     ·intro d hd'
      rw [hr] at hd'; rw [hl]
      rcases List.mem_append.1 hd' with hd' | hd'
      ·exact List.mem_append_left _ hd'
      ·exact List.mem_append_right _ (ZJt _ hd')
     ·rw [hdv']; simp [YB, SX.den]
   ·rw [hnl] at harr
    simp only [cond_true] at harr
    cases hc0 : SX.bq c0 (.int 0)
    ·rw [hc0] at harr; cases harr
    ·rw [hc0] at harr
     simp only [cond_true] at harr
     have hc0 := SX.bq_eq hc0
     cases harr
     subst hc0
     have hneg := ZJ S ρ hnl
     refine ⟨[], fun d h => h, by simp [YE, SX.den], by simp [SX.den], .inr rfl, ?_, rfl, ?_⟩
     ·rw [YE]
      rw [List.append_nil, ZfG, ZP, star_emp]
      exact hs
     ·rw [hdv']; simp [YB, hneg, SX.den]
  cases c8 : (bif Zn b then true else (bif SX.bq o (.int 0) then SX.bq c0 cap else false))
  ·rw [c8] at h; cases h
  rw [c8] at h
  simp only [cond_true, Option.some.injEq, Prod.mk.injEq] at h
  obtain ⟨rfl, rfl, rfl, rfl, rfl, rfl, rfl⟩ := h
  obtain ⟨spare, hsub, g1, g2, g3, hsat, hcc, hdv'⟩ := hstart c8
  obtain ⟨m1, hn1⟩ := Za S ρ ha hn
  obtain ⟨m2, hn2⟩ := Za S ρ ha hn1
  obtain ⟨m3, hn3⟩ := Za S ρ ha hn2
  rw [eLe_den] at m1 m2 m3
  rw [En.lenX_den] at m2
  rw [SX.mk2_den, ZcG] at m3
  simp only [SX.den, ap2, SX.mk2_den, U.tIi] at m1 m2 m3
  obtain ⟨q1, hx⟩ := Zaz S ρ w0 (P := P) ha hs hxv hsrc hn3
  obtain ⟨_, hx'⟩ := Zaz S ρ w0 (P := P) (w := w.drew) ha (Sat.drew hs _) hxv hsrc hn3
  have hvl := En.vals_length e1 (xx.den S ρ)
  have hnden : ((SX.mk2 40 l n0).den S ρ).tI = (l.den S ρ).tI + (n0.den S ρ).tI := by rw [SX.mk2_den]; simp [SX.den, ap2]
  have hntn : ((SX.mk2 40 l n0).den S ρ).tI.toNat = (l.den S ρ).tI.toNat + (n0.den S ρ).tI.toNat := by rw [hnden]; omega
  have hxs : i.size = e1.stride := by rw [hsi, hse]
  have hlen : (e1.vals (xx.den S ρ)).length <= (cap.den S ρ).tI.toNat * e1.stride := by omega
  have hs0 : e1.stride ≠ 0 := by omega
  have hlc : (l.den S ρ).tI.toNat <= (cap.den S ρ).tI.toNat := by
   rw [hvl] at hlen
   have := Nat.le_of_mul_le_mul_right hlen (Nat.pos_of_ne_zero hs0)
   omega
  rw [<- hxs] at hx hx'
  obtain ⟨w', b', c', spare', hrun, k1, k2, k3, k4, k5⟩ := ZmR (P := P) (ty := ty) h0 h1 ht ht2 hd hi hzv (by rw [hzs, hsi]) (by rw [hb]; exact hb1) hsat (by rw [hxs, hvl]; exact ZJe _ (by omega)) (by rcases g3 with g3 | g3 <;> omega) (by rw [ZJs, hxs]; exact g1) hlc hx hx' (En.vals_one _ _) (by
   rw [hb]
   have e1 : (((l.den S ρ).tI.toNat + (n0.den S ρ).tI.toNat) * bytes : Nat) = ((l.den S ρ).tI + (n0.den S ρ).tI) * (bytes : Int) := by
    rw [Int.natCast_mul]; congr 1; omega
   omega)
  refine ⟨hse, hsub, by rw [hnden]; omega, w', b', c', ?_, by rw [hnden]; omega, by rw [hnden]; rcases k2 with k2 | k2 <;> omega, ?_⟩
  ·rw [hdv', hntn]; exact hrun
  ·refine k5.mono fun y' hy => Zo (fun z' hz' => ?_) (fun _ h => h) y' hy
   rw [hxs] at k4 hz'
   refine ⟨spare', ?_, by simp, by simp; omega, ?_⟩
   ·rw [En.vals_app, En.vals_take, <- ZJs, k4]; simp
   ·rw [En.vals_app, En.vals_take]; exact hz'
 ·cases h
theorem Zjf {F : Zd} {w : World} {hp : List Ch} {asm : List SX} {ts : Array TypeId} {t t2 ty : TypeId} {d2 : TypeDesc} {dst src : SV} {dv xv : Value} (ha : ∀ x ∈ asm, (x.den S ρ).tP) (hs : Sat w0 (Zg (Ze S ρ w0 hp) F) w)
  (h0 : ts[0]? = some t) (h1 : ts[1]? = some t2) (ht2 : P.underlying t2 = some d2) (hd : Zan d2 = true) (hdv : dst.R S ρ dv) (hxv : src.R S ρ xv)
  {ns : List SX} {en : En} {x n : SX} {sz : Nat} (h : ZmZ P hp asm t dst src = some (ns, en, x, n, sz)) (hn : ∀ x ∈ ns, (x.den S ρ).tP) :
  ∃ (w' : World) (b' : Int) (c' : Nat), (Builtin.append_ ts ty #[dv, xv]).run P w = .ok (.slice (YB b') (n.den S ρ).tI.toNat c') w' /\ (n.den S ρ).tI <= c' /\ 0 <= b' ∧
   Sat w0 (Zg (ZO S en (.int b') (x.den S ρ) (.int c')) (Zg (Ze S ρ w0 hp) F)) w' := by
 unfold ZmZ at h
 split at h
 ·rename_i b o k z l c0 s et ht
  cases hgr : ZAp asm c0
  ·rw [hgr] at h; cases h
  rw [hgr] at h
  simp only [cond_true] at h
  obtain ⟨bytes, hby, hA⟩ := Zb h
  clear h
  obtain ⟨en', hen, hB⟩ := Zb hA
  clear hA
  obtain ⟨sz', hsz, h⟩ := Zb hB
  clear hB
  cases c1 : ZeZ P et sz'
  ·rw [c1] at h; cases h
  cases c2 : Nat.ble 1 bytes
  ·rw [c1, c2] at h; cases h
  cases c3 : Nat.beq sz' en'.stride
  ·rw [c1, c2, c3] at h; cases h
  rw [c1, c2, c3] at h
  simp only [cond_true] at h
  obtain ⟨⟨e1, n1, y1, ns1⟩, hsrc1, hA⟩ := Zb h
  clear h
  obtain ⟨⟨e2, n2, y2, ns2⟩, hsrc2, h⟩ := Zb hA
  clear hA
  simp only at h
  cases c6 : decide (e1 = en')
  ·rw [c6] at h; cases h
  cases c7 : decide (e2 = en')
  ·rw [c6, c7] at h; cases h
  rw [c6, c7] at h
  simp only [cond_true, Option.some.injEq, Prod.mk.injEq] at h
  obtain ⟨rfl, rfl, rfl, rfl, rfl⟩ := h
  have he1 := of_decide_eq_true c6
  have he2 := of_decide_eq_true c7
  subst he1; subst he2
  obtain ⟨i, zv, hi, hzv, hzs, hz1⟩ := Zde c1
  obtain ⟨i', hi', hb⟩ := ZaZ hby
  rw [hi] at hi'; cases hi'
  obtain ⟨i', hi', hsi⟩ := YW hsz
  rw [hi] at hi'; cases hi'
  have hse := ZJo c3
  have hb1 := ZJA c2
  obtain ⟨m1, hn1⟩ := Za S ρ ha hn
  obtain ⟨m2, hn2⟩ := Za S ρ ha hn1
  obtain ⟨m3, hn3⟩ := Za S ρ ha hn2
  obtain ⟨m4, hn4⟩ := Za S ρ ha hn3
  have hnden : ((SX.mk2 40 l n2).den S ρ).tI = (l.den S ρ).tI + (n2.den S ρ).tI := by rw [SX.mk2_den]; simp [SX.den, ap2]
  rw [Yo, hnden] at m1
  rw [eLe_den] at m2 m3 m4
  rw [SX.mk2_den, ZcG] at m4
  simp only [den_f2', ap2, U.tIi, hnden] at m4
  simp only [SX.den, U.tIi] at m3 m4
  obtain ⟨q1, hx1⟩ := Zaz S ρ w0 (P := P) (w := w.drew) ha (Sat.drew hs _) hdv hsrc1 (fun x hx => hn4 x (List.mem_append_left _ hx))
  obtain ⟨q2, hx2⟩ := Zaz S ρ w0 (P := P) (w := w.drew) ha (Sat.drew hs _) hxv hsrc2 (fun x hx => hn4 x (List.mem_append_right _ hx))
  have hxs : i.size = e2.stride := by rw [hsi, hse]
  have hdv' := R_one S ρ hdv
  simp only [SC.den] at hdv'
  generalize (if (b.den S ρ).tI < 0 then none else some (⟨(b.den S ρ).tI.toNat, (o.den S ρ).tI.toNat + (if (c0.den S ρ).tI = 0 then (z.den S ρ).tI else (k.den S ρ).tI).toNat * s, none⟩ : Addr)) = base at hdv'
  have hln : (n1.den S ρ).tI.toNat = (l.den S ρ).tI.toNat := by
   have := hx1.len w
   rw [hdv'] at this
   simp [Builtin.lenOf] at this
   exact this.symm
  have hold := hx1.first _ (ZJd _)
  rw [ZJz (by rw [hx1.room]; exact ZJd _), hln, hdv', <- hxs] at hold
  rw [<- hxs] at hx2
  obtain ⟨c, sp, hc, hsp, hrun⟩ := ZaF (P := P) (ty := ty) (sCap := (c0.den S ρ).tI.toNat) h0 h1 ht ht2 hd hi hzv (by rw [hzs, hsi]) (by rw [hb]; exact hb1) hx2 (by omega) hold (by
   rw [hb]
   have e1 : (((l.den S ρ).tI.toNat + (n2.den S ρ).tI.toNat) * bytes : Nat) = ((l.den S ρ).tI + (n2.den S ρ).tI) * (bytes : Int) := by
    rw [Int.natCast_mul]; congr 1; omega
   omega)
  have hntn : ((SX.mk2 40 l n2).den S ρ).tI.toNat = (l.den S ρ).tI.toNat + (n2.den S ρ).tI.toNat := by rw [hnden]; omega
  refine ⟨{ w.drew with heap := w.heap.push (.cells (e2.vals (y1.den S ρ) ++ e2.vals (y2.den S ρ) ++ sp).toArray et) }, (w.heap.size : Int), c, ?_, by rw [hnden]; omega, by omega, ?_⟩
  ·rw [hdv', hrun, hntn]
   simp only [YB]
   rw [if_neg (by omega)]
   simp
  ·refine (Sat.new (Sat.drew hs (w.drawn + 1)) (e2.vals (y1.den S ρ) ++ e2.vals (y2.den S ρ) ++ sp) et e2.nf).mono (fun y' hy => Zo (fun z' hz' => ?_) (fun _ h => h) y' hy)
   have r1 := hx1.room
   have r2 := hx2.room
   refine ⟨sp, ?_, by simp, by simp, ?_⟩
   ·rw [En.vals_app, ZJs, r1, r2, hsp, hln, hxs, <- Nat.add_mul, <- Nat.add_mul]
    simp only [U.tIi, ZJu]
    congr 1; omega
   ·rw [En.vals_app]; simpa using hz'
 ·cases h
theorem Zjg {F : Zd} {w : World} {hp : List Ch} {asm : List SX} {ts : Array TypeId} {t t2 ty : TypeId} {dst src : SV} {dv xv : Value} (ha : ∀ x ∈ asm, (x.den S ρ).tP) (hs : Sat w0 (Zg (Ze S ρ w0 hp) F) w)
  (h0 : ts[0]? = some t) (h1 : ts[1]? = some t2) (hdv : dst.R S ρ dv) (hxv : src.R S ρ xv)
  {ns : List SX} {en : En} {x n : SX} {sz : Nat} (h : ZmM P hp asm t t2 dst src = some (ns, en, x, n, sz)) (hn : ∀ x ∈ ns, (x.den S ρ).tP) :
  ∃ (w' : World) (b' : Int) (c' : Nat), (Builtin.append_ ts ty #[dv, xv]).run P w = .ok (.slice (YB b') (n.den S ρ).tI.toNat c') w' /\ (n.den S ρ).tI <= c' /\ 0 <= b' ∧
   Sat w0 (Zg (ZO S en (.int b') (x.den S ρ) (.int c')) (Zg (Ze S ρ w0 hp) F)) w' := by
 unfold ZmM at h
 split at h
 ·rename_i b o k z l c0 s et ke e k2 ht ht2
  cases hgr : ZAp asm c0
  ·rw [hgr] at h; cases h
  rw [hgr] at h
  simp only [cond_true] at h
  obtain ⟨bytes, hby, hA⟩ := Zb h
  clear h
  obtain ⟨en', hen, hB⟩ := Zb hA
  clear hA
  obtain ⟨sz', hsz, hA⟩ := Zb hB
  clear hB
  obtain ⟨ze, hze, h⟩ := Zb hA
  clear hA
  cases c1 : ZeZ P et sz'
  ·rw [c1] at h; cases h
  cases c2 : Nat.ble 1 bytes
  ·rw [c1, c2] at h; cases h
  cases c3 : Nat.beq sz' en'.stride
  ·rw [c1, c2, c3] at h; cases h
  rw [c1, c2, c3] at h
  simp only [cond_true] at h
  obtain ⟨⟨e1, n1, y1, ns1⟩, hsrc1, hA⟩ := Zb h
  clear h
  have h := hA
  clear hA
  simp only at h
  cases c6 : decide (e1 = en')
  ·rw [c6] at h; cases h
  rw [c6] at h
  simp only [cond_true, Option.some.injEq, Prod.mk.injEq] at h
  obtain ⟨rfl, rfl, rfl, rfl, rfl⟩ := h
  have he1 := of_decide_eq_true c6
  subst he1
  obtain ⟨i, zv, hi, hzv, hzs, hz1⟩ := Zde c1
  obtain ⟨i', hi', hb⟩ := ZaZ hby
  rw [hi] at hi'; cases hi'
  obtain ⟨i', hi', hsi⟩ := YW hsz
  rw [hi] at hi'; cases hi'
  have hse := ZJo c3
  have hb1 := ZJA c2
  obtain ⟨m1, hn1⟩ := Za S ρ ha hn
  obtain ⟨m2, hn2⟩ := Za S ρ ha hn1
  obtain ⟨m3, hn3⟩ := Za S ρ ha hn2
  obtain ⟨m4, hn4⟩ := Za S ρ ha hn3
  obtain ⟨m5, hn5⟩ := Za S ρ ha hn4
  have hnden : ((SX.mk2 40 l e).den S ρ).tI = (l.den S ρ).tI + (e.den S ρ).tI := by rw [SX.mk2_den]; simp [SX.den, ap2]
  rw [Yo, hnden] at m1
  rw [eLe_den] at m2 m3 m4 m5
  rw [SX.mk2_den, ZcG] at m4
  simp only [den_f2', ap2, U.tIi, hnden] at m4
  simp only [SX.den, U.tIi] at m3 m4 m5
  obtain ⟨q1, hx1⟩ := Zaz S ρ w0 (P := P) (w := w.drew) ha (Sat.drew hs _) hdv hsrc1 hn5
  have hxs : i.size = e1.stride := by rw [hsi, hse]
  have hdv' := R_one S ρ hdv
  simp only [SC.den] at hdv'
  generalize (if (b.den S ρ).tI < 0 then none else some (⟨(b.den S ρ).tI.toNat, (o.den S ρ).tI.toNat + (if (c0.den S ρ).tI = 0 then (z.den S ρ).tI else (k.den S ρ).tI).toNat * s, none⟩ : Addr)) = base at hdv'
  have hln : (n1.den S ρ).tI.toNat = (l.den S ρ).tI.toNat := by
   have := hx1.len w
   rw [hdv'] at this
   simp [Builtin.lenOf] at this
   exact this.symm
  have hold := hx1.first _ (ZJd _)
  rw [ZJz (by rw [hx1.room]; exact ZJd _), hln, hdv', <- hxs] at hold
  obtain ⟨c, sp, hc, hsp, hrun⟩ := Zj4 (P := P) (ty := ty) (sCap := (c0.den S ρ).tI.toNat) (m := (e.den S ρ).tI.toNat) ke h0 h1 ht ht2 hi hzv (by rw [hzs, hsi]) (by rw [hb]; exact hb1) (by rw [hsi]; exact hz1) (by omega) hold (by
   rw [hb]
   have e1 : (((l.den S ρ).tI.toNat + (e.den S ρ).tI.toNat) * bytes : Nat) = ((l.den S ρ).tI + (e.den S ρ).tI) * (bytes : Int) := by
    rw [Int.natCast_mul]; congr 1; omega
   omega)
  have hxv' := R_one S ρ hxv
  simp only [SC.den] at hxv'
  have he0 : Value.int ke (e.den S ρ).tI = .int ke (((e.den S ρ).tI.toNat : Nat) : Int) := by congr 1; omega
  obtain ⟨iz, vz, hiz, hvz, hcz⟩ := Zt4 S ρ (asm := []) hze
  rw [hi] at hiz; cases hiz
  rw [hzv] at hvz; cases hvz
  have hrep : e1.vals ((e1.repX e ze).den S ρ) = (List.replicate (e.den S ρ).tI.toNat zv.cells.toList).flatten := by rw [En.vals_rep, hcz]
  have hntn : ((SX.mk2 40 l e).den S ρ).tI.toNat = (l.den S ρ).tI.toNat + (e.den S ρ).tI.toNat := by rw [hnden]; omega
  refine ⟨{ w.drew with heap := w.heap.push (.cells (e1.vals (y1.den S ρ) ++ (List.replicate (e.den S ρ).tI.toNat zv.cells.toList).flatten ++ sp).toArray et) }, (w.heap.size : Int), c, ?_, by rw [hnden]; omega, by omega, ?_⟩
  ·rw [hdv', hxv', he0, hrun, hntn]
   simp only [YB]
   rw [if_neg (by omega)]
   simp
  ·refine (Sat.new (Sat.drew hs (w.drawn + 1)) (e1.vals (y1.den S ρ) ++ (List.replicate (e.den S ρ).tI.toNat zv.cells.toList).flatten ++ sp) et e1.nf).mono (fun y' hy => Zo (fun z' hz' => ?_) (fun _ h => h) y' hy)
   have r1 := hx1.room
   have r2 : (List.replicate (e.den S ρ).tI.toNat zv.cells.toList).flatten.length = (e.den S ρ).tI.toNat * i.size := by simp [List.length_flatten, hzs, hsi]
   refine ⟨sp, ?_, by simp, by simp, ?_⟩
   ·rw [En.vals_app, hrep, ZJs, r1, r2, hsp, hln, hxs, <- Nat.add_mul, <- Nat.add_mul]
    simp only [U.tIi, ZJu]
    congr 1; omega
   ·rw [En.vals_app, hrep]; simpa using hz'
 ·cases h
end
end
end Go.Eng
namespace Go.Eng
noncomputable section
open Go.RowKit (Below)
section
variable {G : Type} (S : Sig G) (ρ : Env G) (w0 : World) {P : Program}
theorem Z1 {o : Oper} {c : Call} {b : Builtin} {ev : Operand -> Value} (ho : o.op = .call c) (hc : c.callee = .builtin b) (w : World) :
  ∃ consts, (execOp ev o).run P w = (builtin b c.argTypes o.type consts (c.args.map ev)).run P w := by
 refine ⟨c.args.map fun | .const _ => true | _ => false, ?_⟩
 unfold execOp
 rw [ho]
 simp only [resolve, hc, Sem.run_bind, Sem.run_pure, Result.andThen_ok, invoke]
 rfl
theorem ZnE {b n : SX} (h : 0 <= (b.den S ρ).tI \/ (n.den S ρ).tI = 0) : ((Zms b n).den S ρ).tP := by
 unfold Zms
 split
 ·rename_i k
  rw [eLe_den]
  rcases h with h | h
  ·simpa [SX.den] using h
  ·simp [SX.den] at h; omega
 ·simp only [SX.den, ap2]
  rw [Zfw, Za1]
  simp [SX.den, U.tP]
  exact h.imp (fun h => decide_eq_true h) id
theorem Zqu {w0 w : World} {fz : Bool} {H : Zd} {b p s : Nat} {A spare new : List Value} (hsat : Sat w0 (Zg (row b 0 (A ++ spare) fz) H) w) (hp : p * s <= A.length) (hfit : p * s + new.length <= A.length + spare.length) (hone : ∀ v ∈ new, ZyZ v = true) :
  ∃ w' spare', (storeCells ⟨b, 0 + p * s, none⟩ new).run P w = .ok () w' /\ (A.take (p * s) ++ (new ++ A.drop (p * s + new.length)) ++ spare').length = (A ++ spare).length ∧
   Sat w0 (Zg (row b 0 (A.take (p * s) ++ (new ++ A.drop (p * s + new.length)) ++ spare') fz) H) w' := by
 obtain ⟨w', hrun, hs'⟩ := Ye (P := P) w0 b 0 (p * s) fz H new 0 (A ++ spare) w hsat (by rw [ZJs]; omega) hone
 have e : (A ++ spare).take (p * s + 0) ++ new ++ (A ++ spare).drop (p * s + 0 + new.length) = A.take (p * s) ++ (new ++ A.drop (p * s + new.length)) ++ spare.drop (p * s + new.length - A.length) := by
  rw [Nat.add_zero, List.take_append_of_le_length hp, List.drop_append, ZJL, ZJL, ZJL]
 rw [e] at hs'
 refine ⟨w', spare.drop (p * s + new.length - A.length), hrun, ?_, hs'⟩
 simp only [ZJs, ZJp, ZJB]
 omega
theorem Zlk {F : Zd} {st : St} {w : World} {K : SV -> St -> VC} {ev : Operand -> Value} {o : Oper} {c : Call} {d s : Operand} {t t2 : TypeId} (ho : o.op = .call c) (hc : c.callee = .builtin .append) (ha : c.args.toList = [d, s]) (ht : c.argTypes.toList = [t, t2])
  (hst : HSt S w0 F st ρ w) (hL : ∀ x, (lk st.fr x).R S ρ (ev x)) {ns : List SX} {hp' : List Ch} {sv : SV} (happ : ZjK P st.hp st.asm t (lk st.fr d) (lk st.fr s) = some (ns, hp', sv))
  (hty : (match P.underlying t2 with | some (.int _) => false | some _ => true | none => false) = true)
  (h : (VC.needs ns (K sv { st with hp := hp', asm := ns ++ st.asm })).den S ρ) : LOk S ρ w0 F st K ((execOp ev o).run P w) := by
 obtain ⟨d2, hd2, hnot⟩ : ∃ d2, P.underlying t2 = some d2 /\ Zan d2 = true := by
  split at hty
  ·cases hty
  ·rename_i d' hne hd'
   exact ⟨d', hd', by cases d' <;> first | rfl | exact absurd rfl (hne _)⟩
  ·cases hty
 have hargs : c.args.map ev = #[ev d, ev s] := by apply Array.ext'; simp [ha]
 have t0 : c.argTypes[0]? = some t := by rw [<- ZJc, ht]; rfl
 have t1 : c.argTypes[1]? = some t2 := by rw [<- ZJc, ht]; rfl
 unfold ZjK at happ
 split at happ
 ·rename_i b off k z l c0 s0 et hd hu
  obtain ⟨en, hen, hA⟩ := Zb happ
  clear happ
  obtain ⟨sz, hsz, happ⟩ := Zb hA
  clear hA
  cases c1 : Nat.beq sz en.stride
  ·rw [c1] at happ; cases happ
  cases c2 : Nat.beq s0 sz
  ·rw [c1, c2] at happ; cases happ
  cases c3 : SX.bq off (.int 0)
  ·rw [c1, c2, c3] at happ; cases happ
  rw [c1, c2, c3] at happ
  simp only [cond_true] at happ
  obtain ⟨⟨e2, n, y, ns0⟩, hsrc, hA⟩ := Zb happ
  clear happ
  obtain ⟨⟨e1, x, cap, rest⟩, htk, happ⟩ := Zb hA
  clear hA
  simp only at happ
  cases c4 : decide (e2 = en)
  ·rw [c4] at happ; cases happ
  cases c5 : decide (e1 = en)
  ·rw [c4, c5] at happ; cases happ
  rw [c4, c5] at happ
  simp only [cond_true] at happ
  cases hc6 : (bif sure st.asm (eLe (SX.mk2 40 l n) c0) then true else bif SX.bq c0 (SX.mk2 41 cap k) then sure st.asm (eLe (SX.mk2 40 (SX.mk2 40 k l) n) (en.lenX x)) else false)
  ·rw [hc6] at happ; cases happ
  ·rw [hc6] at happ
   clear hc6
   cases happ
   have h1 := of_decide_eq_true c4; subst h1
   have h2 := of_decide_eq_true c5; subst h2
   have hoff := SX.bq_eq c3
   subst hoff
   have hs1 := ZJo c1
   have hs2 := ZJo c2
   subst hs2
   obtain ⟨hn, hk⟩ := ZA S ρ h
   obtain ⟨m1, hn1⟩ := Za S ρ hst.asm hn
   obtain ⟨m2, hn2⟩ := Za S ρ hst.asm hn1
   obtain ⟨m3, hn3⟩ := Za S ρ hst.asm hn2
   obtain ⟨m4, hn4⟩ := Za S ρ hst.asm hn3
   obtain ⟨m5, hn5⟩ := Za S ρ hst.asm hn4
   rw [eLe_den] at m1 m2 m3 m4 m5
   have ekl : ((SX.mk2 40 k l).den S ρ).tI = (k.den S ρ).tI + (l.den S ρ).tI := by rw [SX.mk2_den]; rfl
   have eln : ((SX.mk2 40 l n).den S ρ).tI = (l.den S ρ).tI + (n.den S ρ).tI := by rw [SX.mk2_den]; rfl
   have ekln : ((SX.mk2 40 (SX.mk2 40 k l) n).den S ρ).tI = (k.den S ρ).tI + (l.den S ρ).tI + (n.den S ρ).tI := by rw [SX.mk2_den]; show ((SX.mk2 40 k l).den S ρ).tI + _ = _; rw [ekl]
   rw [eln] at m3
   rw [ekl, En.lenX_den] at m4
   rw [ekln] at m5
   simp only [SX.den, U.tIi] at m1 m2 m4
   obtain ⟨q1, hx⟩ := Zaz S ρ w0 (P := P) hst.asm hst.hp (hL s) hsrc hn5
   obtain ⟨l1, l2, hl, hr⟩ := YM htk
   have hsat := hst.hp
   rw [hl, Yf, Zc] at hsat
   obtain ⟨spare, hsat⟩ := ZaB hsat
   obtain ⟨g1, hsat⟩ := Zt hsat
   obtain ⟨g2, hsat⟩ := Zt hsat
   obtain ⟨g3, hsat⟩ := Zt hsat
   have hdv := R_one S ρ (hd ▸ hL d)
   simp only [SC.den, SX.den, U.tIi] at hdv
   obtain ⟨consts, hex⟩ := Z1 (P := P) (ev := ev) ho hc w
   have hvl := En.vals_length e1 (x.den S ρ)
   have hroom := hx.room
   have hK : (k.den S ρ).tI.toNat + (l.den S ρ).tI.toNat = ((k.den S ρ).tI + (l.den S ρ).tI).toNat := by omega
   have hp1 : ((k.den S ρ).tI.toNat + (l.den S ρ).tI.toNat) * e1.stride <= (e1.vals (x.den S ρ)).length := by
    rw [hvl]; exact ZJe _ (by omega)
   have hp2 : ((k.den S ρ).tI.toNat + (l.den S ρ).tI.toNat) * e1.stride + (e1.vals (y.den S ρ)).length <= (e1.vals (x.den S ρ)).length + spare.length := by
    rw [g1, hroom, <- Nat.add_mul]; exact ZJe _ (by omega)
   have hvals : e1.vals ((e1.appX (e1.takeX x (SX.mk2 40 k l)) (e1.appX y (e1.dropX x (SX.mk2 40 (SX.mk2 40 k l) n)))).den S ρ) =
     (e1.vals (x.den S ρ)).take (((k.den S ρ).tI.toNat + (l.den S ρ).tI.toNat) * e1.stride) ++ (e1.vals (y.den S ρ) ++ (e1.vals (x.den S ρ)).drop (((k.den S ρ).tI.toNat + (l.den S ρ).tI.toNat) * e1.stride + (e1.vals (y.den S ρ)).length)) := by
    rw [En.vals_app, En.vals_app, En.vals_take, En.vals_drop, ekl, ekln, hroom, hK, <- Nat.add_mul]
    congr 4
    omega
   obtain ⟨w', hrun, spare', hlen', hs'⟩ : ∃ w', (match (if (b.den S ρ).tI < 0 then none else some (⟨(b.den S ρ).tI.toNat, (0 : Int).toNat + (if (c0.den S ρ).tI = 0 then (z.den S ρ).tI else (k.den S ρ).tI).toNat * s0, none⟩ : Addr)) with
     | some a => (storeCells (a.add ((l.den S ρ).tI.toNat * s0)) (e1.vals (y.den S ρ))).run P w = .ok () w' | none => w' = w) ∧
     ∃ spare', ((e1.vals (x.den S ρ)).take (((k.den S ρ).tI.toNat + (l.den S ρ).tI.toNat) * e1.stride) ++ (e1.vals (y.den S ρ) ++ (e1.vals (x.den S ρ)).drop (((k.den S ρ).tI.toNat + (l.den S ρ).tI.toNat) * e1.stride + (e1.vals (y.den S ρ)).length)) ++ spare').length = (e1.vals (x.den S ρ) ++ spare).length ∧
     Sat w0 (Zg (row (b.den S ρ).tI.toNat 0 ((e1.vals (x.den S ρ)).take (((k.den S ρ).tI.toNat + (l.den S ρ).tI.toNat) * e1.stride) ++ (e1.vals (y.den S ρ) ++ (e1.vals (x.den S ρ)).drop (((k.den S ρ).tI.toNat + (l.den S ρ).tI.toNat) * e1.stride + (e1.vals (y.den S ρ)).length)) ++ spare') e1.nf) (Zg (Ze S ρ w0 (l1 ++ l2)) F)) w' := by
    have same : e1.vals (y.den S ρ) = [] -> ∃ spare', ((e1.vals (x.den S ρ)).take (((k.den S ρ).tI.toNat + (l.den S ρ).tI.toNat) * e1.stride) ++ (e1.vals (y.den S ρ) ++ (e1.vals (x.den S ρ)).drop (((k.den S ρ).tI.toNat + (l.den S ρ).tI.toNat) * e1.stride + (e1.vals (y.den S ρ)).length)) ++ spare').length = (e1.vals (x.den S ρ) ++ spare).length ∧
     Sat w0 (Zg (row (b.den S ρ).tI.toNat 0 ((e1.vals (x.den S ρ)).take (((k.den S ρ).tI.toNat + (l.den S ρ).tI.toNat) * e1.stride) ++ (e1.vals (y.den S ρ) ++ (e1.vals (x.den S ρ)).drop (((k.den S ρ).tI.toNat + (l.den S ρ).tI.toNat) * e1.stride + (e1.vals (y.den S ρ)).length)) ++ spare') e1.nf) (Zg (Ze S ρ w0 (l1 ++ l2)) F)) w := by
     intro h0
     refine ⟨spare, ?_⟩
     rw [h0, List.length_nil, Nat.add_zero, List.nil_append, List.take_append_drop]
     exact ⟨rfl, hsat⟩
    by_cases hneg : (b.den S ρ).tI < 0
    ·refine ⟨w, by simp [hneg], same ?_⟩
     have hc0 : (cap.den S ρ).tI = 0 := g3.resolve_left (by omega)
     have : (n.den S ρ).tI.toNat = 0 := by omega
     exact ZJC (by rw [hroom, this]; simp)
    ·simp only [if_neg hneg]
     by_cases hc0 : (c0.den S ρ).tI = 0
     ·have : (n.den S ρ).tI.toNat = 0 := by omega
      have hnil : e1.vals (y.den S ρ) = [] := ZJC (by rw [hroom, this]; simp)
      refine ⟨w, ?_, same hnil⟩
      rw [hnil]; rfl
     ·obtain ⟨w', spare', hrun, hlen, hs'⟩ := Zqu (P := P) hsat hp1 hp2 (En.vals_one e1 _)
      refine ⟨w', ?_, spare', hlen, hs'⟩
      rw [if_neg hc0, Addr.add_eq, hs1]
      rw [Nat.add_mul, <- Nat.add_assoc] at hrun
      exact hrun
   refine ⟨w', .inl ⟨.slice (if (b.den S ρ).tI < 0 then none else some (⟨(b.den S ρ).tI.toNat, (0 : Int).toNat + (if (c0.den S ρ).tI = 0 then (z.den S ρ).tI else (k.den S ρ).tI).toNat * s0, none⟩ : Addr)) ((l.den S ρ).tI.toNat + (n.den S ρ).tI.toNat) (c0.den S ρ).tI.toNat, ?_, YA S ρ w0 hst hn hk ?_ ?_⟩⟩
   ·rw [hex, hargs, hdv]
    refine ZH (s := Builtin.append_ c.argTypes o.type #[_, ev s]) (YL t0 t1 hu hd2 hnot hsz (hs1 ▸ hx) (by omega) ?_)
    by_cases hneg : (b.den S ρ).tI < 0
    ·rw [if_pos hneg] at hrun ⊢; exact hrun
    ·rw [if_neg hneg] at hrun ⊢; exact hrun
   ·rw [Zw, Zc, hr]
    refine hs'.mono fun y' hy => Zo (fun z' hz' => ?_) (fun _ h => h) y' hy
    refine ⟨spare', ?_, g2, g3, ?_⟩
    ·rw [hvals, <- ZJs, hlen', ZJs]; exact g1
    ·rw [hvals]; exact hz'
   ·right
    simp only [SV.den, SC.den, SX.den, U.tIi]
    rw [eln]
    congr 1
    omega
 ·cases happ
theorem Zq6 {F : Zd} {st : St} {w : World} {K : SV -> St -> VC} {ev : Operand -> Value} {o : Oper} {c : Call} {d s : Operand} {t t2 : TypeId} (ho : o.op = .call c) (hc : c.callee = .builtin .append) (ha : c.args.toList = [d, s]) (ht : c.argTypes.toList = [t, t2])
  (hst : HSt S w0 F st ρ w) (hL : ∀ x, (lk st.fr x).R S ρ (ev x)) (h : (lop P st (.call c) K).den S ρ) : LOk S ρ w0 F st K ((execOp ev o).run P w) := by
 simp only [lop, hc, ha, ht] at h
 split at h
 ·rename_i ns hp' sv happ hty
  exact Zlk S ρ w0 ho hc ha ht hst hL happ hty h
 split at h
 ·rename_i ns en x n sz happ hty
  cases h1 : x.lt st.n
  ·rw [h1] at h; exact h.elim
  cases h2 : n.lt st.n
  ·rw [h1, h2] at h; exact h.elim
  rw [h1, h2] at h
  simp only [cond_true] at h
  obtain ⟨hn, hf⟩ := ZA S ρ h
  obtain ⟨d2, hd2, hnot⟩ : ∃ d2, P.underlying t2 = some d2 /\ Zan d2 = true := by
   split at hty
   ·cases hty
   ·rename_i d' hne hd'
    exact ⟨d', hd', by cases d' <;> first | rfl | exact absurd rfl (hne _)⟩
   ·cases hty
  have hargs : c.args.map ev = #[ev d, ev s] := by apply Array.ext'; simp [ha]
  have t0 : c.argTypes[0]? = some t := by rw [<- ZJc, ht]; rfl
  have t1 : c.argTypes[1]? = some t2 := by rw [<- ZJc, ht]; rfl
  obtain ⟨w', b', c', hrun, k1, k2, k3⟩ := Zjf S ρ w0 (P := P) (ty := o.type) hst.asm hst.hp t0 t1 hd2 hnot (hL d) (hL s) happ hn
  obtain ⟨consts, hex⟩ := Z1 (P := P) (ev := ev) ho hc w
  have hE := Yv S ρ st.n [Srt.int, Srt.int] [U.int b', U.int (c' : Nat)]
  have hb' : (SX.at .int st.n).den S (YX S ρ st.n [.int, .int] [.int b', .int (c' : Nat)]) = .int b' := by simp [SX.den, YX, Env.upd, U.co]
  have hc' : (SX.at .int (st.n + 1)).den S (YX S ρ st.n [.int, .int] [.int b', .int (c' : Nat)]) = .int (c' : Nat) := by simp [SX.den, YX, Env.upd, U.co]
  have hnE := SX.den_ext S hE h2
  refine ⟨w', .inl ⟨.slice (YB b') (n.den S ρ).tI.toNat c', ?_, Ys S ρ w0 (ns := ns) hst hn hf (fun _ h => h) [.int b', .int (c' : Nat)] rfl ?_ ?_ ?_⟩⟩
  ·rw [hex, hargs]
   exact ZH (s := Builtin.append_ c.argTypes o.type #[ev d, ev s]) hrun
  ·intro e he
   simp only [List.mem_cons, List.not_mem_nil, or_false] at he
   rcases he with rfl | rfl
   ·rw [eLe_den, hc', hnE]; simpa using k1
   ·rw [eLe_den, hb']; simpa [SX.den] using k2
  ·simp only [Ch.den]
   rw [hb', hc', SX.den_ext S hE h1]
   exact k3
  ·right
   simp only [SV.den, SC.den]
   rw [hb', hc', hnE]
   simp [YB, SX.den]
 split at h
 ·rename_i ns rest en x n cap sz happ hty
  cases h1 : x.lt st.n
  ·rw [h1] at h; exact h.elim
  cases h2 : n.lt st.n
  ·rw [h1, h2] at h; exact h.elim
  cases h3 : cap.lt st.n
  ·rw [h1, h2, h3] at h; exact h.elim
  rw [h1, h2, h3] at h
  simp only [cond_true] at h
  obtain ⟨hn, hf⟩ := ZA S ρ h
  obtain ⟨d2, hd2, hnot⟩ : ∃ d2, P.underlying t2 = some d2 /\ Zan d2 = true := by
   split at hty
   ·cases hty
   ·rename_i d' hne hd'
    exact ⟨d', hd', by cases d' <;> first | rfl | exact absurd rfl (hne _)⟩
   ·cases hty
  have hargs : c.args.map ev = #[ev d, ev s] := by apply Array.ext'; simp [ha]
  have t0 : c.argTypes[0]? = some t := by rw [<- ZJc, ht]; rfl
  have t1 : c.argTypes[1]? = some t2 := by rw [<- ZJc, ht]; rfl
  obtain ⟨hsz, hsub, hn0, w', b', c', hrun, k1, k2, k3⟩ := Zi4 S ρ w0 (P := P) (ty := o.type) hst.asm hst.hp t0 t1 hd2 hnot (hL d) (hL s) happ hn
  obtain ⟨consts, hex⟩ := Z1 (P := P) (ev := ev) ho hc w
  have hE := Yv S ρ st.n [Srt.int, Srt.int] [U.int b', U.int (c' : Nat)]
  have hb' : (SX.at .int st.n).den S (YX S ρ st.n [.int, .int] [.int b', .int (c' : Nat)]) = .int b' := by simp [SX.den, YX, Env.upd, U.co]
  have hc' : (SX.at .int (st.n + 1)).den S (YX S ρ st.n [.int, .int] [.int b', .int (c' : Nat)]) = .int (c' : Nat) := by simp [SX.den, YX, Env.upd, U.co]
  have hnE := SX.den_ext S hE h2
  refine ⟨w', .inl ⟨.slice (YB b') (n.den S ρ).tI.toNat c', ?_, Ys S ρ w0 (ns := ns) hst hn hf hsub [.int b', .int (c' : Nat)] rfl ?_ ?_ ?_⟩⟩
  ·rw [hex, hargs]
   exact ZH (s := Builtin.append_ c.argTypes o.type #[ev d, ev s]) hrun
  ·intro e he
   simp only [List.mem_cons, List.not_mem_nil, or_false] at he
   rcases he with rfl | rfl
   ·rw [eLe_den, hc', hnE]; simpa using k1
   ·exact ZnE S _ (by rw [hb', hnE]; simpa using k2)
  ·simp only [Ch.den]
   rw [hb', hc', SX.den_ext S hE h1]
   exact k3
  ·right
   simp only [SV.den, SC.den]
   rw [hb', hc', hnE]
   simp [YB, SX.den]
 split at h
 ·rename_i ns en x n sz happ
  cases h1 : x.lt st.n
  ·rw [h1] at h; exact h.elim
  cases h2 : n.lt st.n
  ·rw [h1, h2] at h; exact h.elim
  rw [h1, h2] at h
  simp only [cond_true] at h
  obtain ⟨hn, hf⟩ := ZA S ρ h
  have hargs : c.args.map ev = #[ev d, ev s] := by apply Array.ext'; simp [ha]
  have t0 : c.argTypes[0]? = some t := by rw [<- ZJc, ht]; rfl
  have t1 : c.argTypes[1]? = some t2 := by rw [<- ZJc, ht]; rfl
  obtain ⟨w', b', c', hrun, k1, k2, k3⟩ := Zjg S ρ w0 (P := P) (ty := o.type) hst.asm hst.hp t0 t1 (hL d) (hL s) happ hn
  obtain ⟨consts, hex⟩ := Z1 (P := P) (ev := ev) ho hc w
  have hE := Yv S ρ st.n [Srt.int, Srt.int] [U.int b', U.int (c' : Nat)]
  have hb' : (SX.at .int st.n).den S (YX S ρ st.n [.int, .int] [.int b', .int (c' : Nat)]) = .int b' := by simp [SX.den, YX, Env.upd, U.co]
  have hc' : (SX.at .int (st.n + 1)).den S (YX S ρ st.n [.int, .int] [.int b', .int (c' : Nat)]) = .int (c' : Nat) := by simp [SX.den, YX, Env.upd, U.co]
  have hnE := SX.den_ext S hE h2
  refine ⟨w', .inl ⟨.slice (YB b') (n.den S ρ).tI.toNat c', ?_, Ys S ρ w0 (ns := ns) hst hn hf (fun _ h => h) [.int b', .int (c' : Nat)] rfl ?_ ?_ ?_⟩⟩
  ·rw [hex, hargs]
   exact ZH (s := Builtin.append_ c.argTypes o.type #[ev d, ev s]) hrun
  ·intro e he
   simp only [List.mem_cons, List.not_mem_nil, or_false] at he
   rcases he with rfl | rfl
   ·rw [eLe_den, hc', hnE]; simpa using k1
   ·rw [eLe_den, hb']; simpa [SX.den] using k2
  ·simp only [Ch.den]
   rw [hb', hc', SX.den_ext S hE h1]
   exact k3
  ·right
   simp only [SV.den, SC.den]
   rw [hb', hc', hnE]
   simp [YB, SX.den]
 ·exact h.elim
theorem ZqM {F : Zd} {st : St} {w : World} {K : SV -> St -> VC} {ev : Operand -> Value} {o : Oper} {c : Call} {d s : Operand} {t : TypeId} {ts : List TypeId} (ho : o.op = .call c) (hc : c.callee = .builtin .delete) (ha : c.args.toList = [d, s]) (ht : c.argTypes.toList = t :: ts)
  (hst : HSt S w0 F st ρ w) (hL : ∀ x, (lk st.fr x).R S ρ (ev x)) (h : (lop P st (.call c) K).den S ρ) : LOk S ρ w0 F st K ((execOp ev o).run P w) := by
 simp only [lop, hc, ha, ht] at h
 split at h
 ·rename_i kt et b kc hu hm hk
  split at h
  ·rename_i kk vd mm rest kd htk hkt
   split at h
   rotate_left
   ·exact h.elim
   rename_i ke hfit hkenc
   obtain ⟨es, clock, hb, hmo, hheap, hput⟩ := Zfy S ρ w0 htk hst.hp
   obtain ⟨hkv, hko⟩ := MK.enc_den S ρ hkenc
   have hm' := R_one S ρ (hm ▸ hL d)
   have hk' := R_one S ρ (hk ▸ hL s)
   simp only [SC.den] at hm'
   rw [hkv] at hk'
   rw [if_neg (by omega)] at hm'
   have hargs : c.args.map ev = #[ev d, ev s] := by apply Array.ext'; simp [ha]
   have t0 : c.argTypes[0]? = some t := by rw [<- ZJc, ht]; rfl
   obtain ⟨es', hrun, hok⟩ := Zru (P := P) (ty := o.type) hfit t0 hu hkt hko hheap hmo
   obtain ⟨consts, hex⟩ := Z1 (P := P) (ev := ev) ho hc w
   refine ⟨_, .inl ⟨.tuple #[], ?_, YA S ρ w0 (ns := []) hst (by simp) h (hput es' clock _ (by rw [Zj9]; exact hok)) (.inr rfl)⟩⟩
   rw [hex, hargs, hm', hk']
   exact ZH (s := Builtin.delete_ c.argTypes o.type #[.map (some (b.den S ρ).tI.toNat), kk.val (ke.den S ρ).tI]) hrun
  ·exact h.elim
 ·exact h.elim
theorem ZyR {e2 : En} {x b k z l cc cap : SX} {spare : List Value} {R H : Zd} {w : World} {m sz : Nat} {new : List Value}
  (hsat : Sat w0 (Zg (row (b.den S ρ).tI.toNat 0 (e2.vals (x.den S ρ) ++ spare) e2.nf) H) w)
  (g1 : (b.den S ρ).tI < 0 -> (e2.vals (x.den S ρ)).length = 0)
  (hs2 : sz = e2.stride) (hnew : new.length = m * e2.stride) (hm : m <= (l.den S ρ).tI.toNat) (hone : ∀ v ∈ new, ZyZ v = true)
  (hlc : (l.den S ρ).tI <= (cc.den S ρ).tI)
  (hkl : (k.den S ρ).tI.toNat * e2.stride + (l.den S ρ).tI.toNat * e2.stride <= (e2.vals (x.den S ρ)).length) :
  ∃ w', (match (if (b.den S ρ).tI < 0 then none else some (⟨(b.den S ρ).tI.toNat, (0 : Int).toNat + (if (cc.den S ρ).tI = 0 then (z.den S ρ).tI else (k.den S ρ).tI).toNat * sz, none⟩ : Addr)) with
     | some a => (storeCells a new).run P w = .ok () w' | none => w' = w) ∧
   Sat w0 (Zg (row (b.den S ρ).tI.toNat 0 ((e2.vals (x.den S ρ)).take ((k.den S ρ).tI.toNat * e2.stride) ++ (new ++ (e2.vals (x.den S ρ)).drop ((k.den S ρ).tI.toNat * e2.stride + m * e2.stride)) ++ spare) e2.nf) H) w' := by
 have hml : m * e2.stride <= (l.den S ρ).tI.toNat * e2.stride := ZJe _ hm
 have same : new = [] -> Sat w0 (Zg (row (b.den S ρ).tI.toNat 0 ((e2.vals (x.den S ρ)).take ((k.den S ρ).tI.toNat * e2.stride) ++ (new ++ (e2.vals (x.den S ρ)).drop ((k.den S ρ).tI.toNat * e2.stride + m * e2.stride)) ++ spare) e2.nf) H) w := by
  intro h0
  have : m * e2.stride = 0 := by rw [<- hnew, h0]; rfl
  rw [h0, this, Nat.add_zero, List.nil_append, List.take_append_drop]
  exact hsat
 by_cases hneg : (b.den S ρ).tI < 0
 ·refine ⟨w, by simp [hneg], same ?_⟩
  have := g1 hneg
  exact ZJC (by rw [hnew]; omega)
 ·simp only [if_neg hneg]
  by_cases hc0 : (cc.den S ρ).tI = 0
  ·have hl0 : (l.den S ρ).tI.toNat = 0 := by omega
   have hm0 : m = 0 := by omega
   have hnil : new = [] := ZJC (by rw [hnew, hm0]; simp)
   refine ⟨w, ?_, same hnil⟩
   rw [hnil]; rfl
  ·obtain ⟨w', hrun, hs'⟩ := Ye (P := P) w0 (b.den S ρ).tI.toNat 0 ((k.den S ρ).tI.toNat * e2.stride) e2.nf _ new 0 _ w hsat (by rw [hnew, ZJs]; omega) hone
   refine ⟨w', ?_, ?_⟩
   ·rw [if_neg hc0, hs2]
    simpa using hrun
   ·rw [hnew, Nat.add_zero, List.take_append_of_le_length (by omega), List.drop_append_of_le_length (by omega)] at hs'
    simpa using hs'
theorem Zeg {ts : Array TypeId} {t et ty : TypeId} {l cap : Nat} {base : Option Addr} {i : TypeInfo} {zv : Value} {w w' : World} (h0 : ts[0]? = some t) (ht : P.underlying t = some (.slice et)) (hi : P.info? et = some i) (hz : i.zero = some zv)
  (hrun : match base with | some a => (storeCells a (List.replicate l zv.cells.toList).flatten).run P w = .ok () w' | none => w' = w) :
  (Builtin.clear_ ts ty #[.slice base l cap]).run P w = .ok (.tuple #[]) w' := by
 cases base with
 | none => subst hrun; simp [Builtin.clear_, h0, run_underlying ht]
 | some a =>
  cases l with
  | zero =>
   simp only [List.replicate_zero, List.flatten_nil] at hrun
   have : w' = w := by simp only [storeCells, Sem.run_pure, Result.ok.injEq] at hrun; exact hrun.2.symm
   subst this
   simp [Builtin.clear_, h0, run_underlying ht]
  | succ l =>
   have hc : (Builtin.zeroCells zv.cells (l + 1)).toList = (List.replicate (l + 1) zv.cells.toList).flatten := Z4 _ _
   simp [Builtin.clear_, h0, run_underlying ht, YS hi hz, hc, hrun]
theorem Zuh {F : Zd} {st : St} {w : World} {K : SV -> St -> VC} {ev : Operand -> Value} {o : Oper} {c : Call} {d : Operand} {t : TypeId} {ts : List TypeId} (ho : o.op = .call c) (hc : c.callee = .builtin .clear) (ha : c.args.toList = [d]) (ht : c.argTypes.toList = t :: ts)
  (hst : HSt S w0 F st ρ w) (hL : ∀ x, (lk st.fr x).R S ρ (ev x)) (h : (lop P st (.call c) K).den S ρ) : LOk S ρ w0 F st K ((execOp ev o).run P w) := by
 simp only [lop, hc, ha, ht] at h
 split at h
 ·rename_i b kt et hm hu
  split at h
  ·rename_i kk vd mm rest htk
   obtain ⟨es, clock, hb, hmo, hheap, hput⟩ := Zfy S ρ w0 htk hst.hp
   have hm' := R_one S ρ (hm ▸ hL d)
   simp only [SC.den] at hm'
   rw [if_neg (by omega)] at hm'
   have hargs : c.args.map ev = #[ev d] := by apply Array.ext'; simp [ha]
   have t0 : c.argTypes[0]? = some t := by rw [<- ZJc, ht]; rfl
   obtain ⟨consts, hex⟩ := Z1 (P := P) (ev := ev) ho hc w
   refine ⟨_, .inl ⟨.tuple #[], ?_, YA S ρ w0 (ns := []) hst (by simp) h (hput #[] clock _ ?_) (.inr rfl)⟩⟩
   ·rw [hex, hargs, hm']
    exact ZH (s := Builtin.clear_ c.argTypes o.type #[.map (some (b.den S ρ).tI.toNat)]) (ZyP t0 hu hheap)
   ·exact ⟨by simp [SX.den, ap1], by simp [SX.den, ap1], by simp [SX.den, ap1], by simp, by simp⟩
  ·exact h.elim
 ·rename_i b off k z l cc sz et hd hu
  split at h
  ·rename_i en x cap rest sz' htk hsz
   split at h
   ·rename_i ze hze
    cases c2 : SX.bq off (.int 0)
    ·rw [c2] at h; exact h.elim
    cases c3 : Nat.beq sz sz'
    ·rw [c2, c3] at h; exact h.elim
    cases c4 : Nat.beq sz en.stride
    ·rw [c2, c3, c4] at h; exact h.elim
    rw [c2, c3, c4] at h
    simp only [cond_true] at h
    have hoff := SX.bq_eq c2
    subst hoff
    have hs1 := ZJo c3
    have hs2 := ZJo c4
    obtain ⟨hn, hk⟩ := ZA S ρ h
    obtain ⟨m1, hn1⟩ := Za S ρ hst.asm hn
    obtain ⟨m2, hn2⟩ := Za S ρ hst.asm hn1
    obtain ⟨m3, hn3⟩ := Za S ρ hst.asm hn2
    obtain ⟨m4, hn4⟩ := Za S ρ hst.asm hn3
    rw [eLe_den] at m1 m2 m3 m4
    rw [SX.mk2_den, En.lenX_den] at m4
    simp only [SX.den, ap2, U.tIi] at m1 m2 m4
    obtain ⟨i, v, hi, hv, hcv⟩ := Zt4 S ρ (asm := []) hze
    obtain ⟨l1, l2, hl, hr⟩ := YM htk
    have hsat := hst.hp
    rw [hl, Yf, Zc] at hsat
    obtain ⟨spare, hsat⟩ := ZaB hsat
    obtain ⟨g1, hsat⟩ := Zt hsat
    obtain ⟨g2, hsat⟩ := Zt hsat
    obtain ⟨g3, hsat⟩ := Zt hsat
    have hdv := R_one S ρ (hd ▸ hL d)
    simp only [SC.den, SX.den, U.tIi] at hdv
    have hargs : c.args.map ev = #[ev d] := by apply Array.ext'; simp [ha]
    have t0 : c.argTypes[0]? = some t := by rw [<- ZJc, ht]; rfl
    obtain ⟨consts, hex⟩ := Z1 (P := P) (ev := ev) ho hc w
    have hvl := En.vals_length en (x.den S ρ)
    have hkl : (k.den S ρ).tI.toNat * en.stride + (l.den S ρ).tI.toNat * en.stride <= (en.vals (x.den S ρ)).length := by
     rw [hvl, <- Nat.add_mul]; exact ZJe _ (by omega)
    have hrepv := En.vals_rep S ρ en l ze
    rw [<- hcv] at hrepv
    have hnewlen : (List.replicate (l.den S ρ).tI.toNat v.cells.toList).flatten.length = (l.den S ρ).tI.toNat * en.stride := by
     have hz1 : v.cells.toList.length = en.stride := by rw [hcv, En.elV_length]
     simp only [List.length_flatten, List.map_replicate, List.sum_replicate_nat, hz1]
    have hvals : en.vals ((en.appX (en.takeX x k) (en.appX (en.repX l ze) (en.dropX x (SX.mk2 40 k l)))).den S ρ) =
      (en.vals (x.den S ρ)).take ((k.den S ρ).tI.toNat * en.stride) ++ ((List.replicate (l.den S ρ).tI.toNat v.cells.toList).flatten ++ (en.vals (x.den S ρ)).drop ((k.den S ρ).tI.toNat * en.stride + (l.den S ρ).tI.toNat * en.stride)) := by
     rw [En.vals_app, En.vals_app, En.vals_take, hrepv, En.vals_drop]
     have : ((SX.mk2 40 k l).den S ρ).tI.toNat = (k.den S ρ).tI.toNat + (l.den S ρ).tI.toNat := by
      rw [SX.mk2_den]
      have e1 : ((SX.f2 40 k l).den S ρ).tI = (k.den S ρ).tI + (l.den S ρ).tI := rfl
      rw [e1]; omega
     rw [this, Nat.add_mul]
    obtain ⟨w', hrun, hs'⟩ := ZyR S ρ w0 (P := P) (k := k) (z := z) (l := l) (cc := cc) (m := (l.den S ρ).tI.toNat) (sz := sz) (new := (List.replicate (l.den S ρ).tI.toNat v.cells.toList).flatten) (R := F) (cap := cap)
     hsat (by
      intro hneg
      have hc0 : (cap.den S ρ).tI = 0 := g3.resolve_left (by omega)
      rw [hc0] at g1
      simp at g1
      rw [g1.1]; rfl) hs2 hnewlen (ZJd _) (by
       intro q hq
       rw [<- hrepv] at hq
       exact En.vals_one en _ q hq) m3 hkl
    refine ⟨w', .inl ⟨.tuple #[], ?_, YA S ρ w0 hst hn hk ?_ ?_⟩⟩
    ·rw [hex, hargs, hdv]
     refine ZH (s := Builtin.clear_ c.argTypes o.type #[_]) (Zeg t0 hu hi hv ?_)
     by_cases hneg : (b.den S ρ).tI < 0
     ·rw [if_pos hneg] at hrun ⊢; exact hrun
     ·rw [if_neg hneg] at hrun ⊢; exact hrun
    ·rw [Zw, Zc, hr]
     refine hs'.mono fun y' hy => Zo (fun z' hz' => ?_) (fun _ h => h) y' hy
     refine ⟨spare, ?_, g2, g3, ?_⟩
     ·rw [hvals, ZJs, ZJs, ZJp, hnewlen, ZJB]; omega
     ·rw [hvals]; exact hz'
    ·exact .inr rfl
   ·exact h.elim
  ·exact h.elim
 ·exact h.elim
theorem ZdS {ts : Array TypeId} {t et ty : TypeId} {sz n l cap : Nat} {base : Option Addr} {x : Value} {cells : List Value} {w w' : World} (h0 : ts[0]? = some t) (ht : P.underlying t = some (.slice et)) (hsz : Za9 P et = some sz) (hx : SrcL P sz x n (min n l) cells w)
  (hrun : match base with | some a => (storeCells a (cells.take (min n l * sz))).run P w = .ok () w' | none => w' = w) :
  (Builtin.copy_ ts ty #[.slice base l cap, x]).run P w = .ok (goInt (min n l : Nat)) w' := by
 have hf := hx.first (min n l) (ZJd _)
 have hmin : n.min l = min n l := rfl
 cases base with
 | none => subst hrun; simp [Builtin.copy_, h0, run_underlying ht, hx.len, Zm hsz, hmin, hf]
 | some a => simp [Builtin.copy_, h0, run_underlying ht, hx.len, Zm hsz, hmin, hf, hrun]
theorem ZzI {F : Zd} {st : St} {w : World} {K : SV -> St -> VC} {ev : Operand -> Value} {o : Oper} {c : Call} {d s : Operand} {t : TypeId} {ts : List TypeId} (ho : o.op = .call c) (hc : c.callee = .builtin .copy) (ha : c.args.toList = [d, s]) (ht : c.argTypes.toList = t :: ts)
  (hst : HSt S w0 F st ρ w) (hL : ∀ x, (lk st.fr x).R S ρ (ev x)) (h : (lop P st (.call c) K).den S ρ) : LOk S ρ w0 F st K ((execOp ev o).run P w) := by
 simp only [lop, hc, ha, ht] at h
 split at h
 ·rename_i b off k z l cc sz et e2 n y ns hd hu hsrc
  split at h
  ·rename_i en x cap rest sz' htk hsz
   cases c1 : decide (e2 = en)
   ·rw [c1] at h; exact h.elim
   cases c2 : SX.bq off (.int 0)
   ·rw [c1, c2] at h; exact h.elim
   cases c3 : Nat.beq sz sz'
   ·rw [c1, c2, c3] at h; exact h.elim
   cases c4 : Nat.beq sz en.stride
   ·rw [c1, c2, c3, c4] at h; exact h.elim
   rw [c1, c2, c3, c4] at h
   simp only [cond_true] at h
   have he := of_decide_eq_true c1
   subst he
   have hoff := SX.bq_eq c2
   subst hoff
   have hs1 := ZJo c3
   have hs2 := ZJo c4
   obtain ⟨hn, hk⟩ := ZA S ρ h
   obtain ⟨m1, hn1⟩ := Za S ρ hst.asm hn
   obtain ⟨m2, hn2⟩ := Za S ρ hst.asm hn1
   obtain ⟨m3, hn3⟩ := Za S ρ hst.asm hn2
   obtain ⟨m4, hn4⟩ := Za S ρ hst.asm hn3
   obtain ⟨m5, hn5⟩ := Za S ρ hst.asm hn4
   rw [eLe_den] at m1 m2 m3 m4 m5
   rw [En.lenX_den] at m4
   rw [SX.mk2_den] at m5
   simp only [SX.den, ap2, U.tIi] at m1 m2 m4 m5
   rw [hd] at hsrc
   obtain ⟨q1, hx⟩ := Zra S ρ w0 (P := P) hst.asm hst.hp (hL s) hsrc hn5 m2
   obtain ⟨l1, l2, hl, hr⟩ := YM htk
   have hsat := hst.hp
   rw [hl, Yf, Zc] at hsat
   obtain ⟨spare, hsat⟩ := ZaB hsat
   obtain ⟨g1, hsat⟩ := Zt hsat
   obtain ⟨g2, hsat⟩ := Zt hsat
   obtain ⟨g3, hsat⟩ := Zt hsat
   have hdv := R_one S ρ (hd ▸ hL d)
   simp only [SC.den, SX.den, U.tIi] at hdv
   have hargs : c.args.map ev = #[ev d, ev s] := by apply Array.ext'; simp [ha]
   have t0 : c.argTypes[0]? = some t := by rw [<- ZJc, ht]; rfl
   obtain ⟨consts, hex⟩ := Z1 (P := P) (ev := ev) ho hc w
   have hvl := En.vals_length e2 (x.den S ρ)
   generalize hK : (k.den S ρ).tI.toNat = kk at *
   generalize hLn : (l.den S ρ).tI.toNat = ll at *
   generalize hN : (n.den S ρ).tI.toNat = nn at *
   have hkk : kk * e2.stride <= (e2.vals (x.den S ρ)).length := by
    rw [hvl]; exact ZJe _ (by omega)
   have hkl : kk * e2.stride + ll * e2.stride <= (e2.vals (x.den S ρ)).length + spare.length := by
    rw [g1, <- Nat.add_mul]; exact ZJe _ (by omega)
   have hml : min nn ll * e2.stride <= ll * e2.stride := ZJe _ (Nat.min_le_right _ _)
   have hmn : min nn ll * e2.stride <= nn * e2.stride := ZJe _ (Nat.min_le_left _ _)
   have hnewlen : ((e2.vals (y.den S ρ)).take (min nn ll * e2.stride)).length = min nn ll * e2.stride := by have := hx.room; rw [ZJp]; omega
   have hm : ((SX.mk2 51 n l).den S ρ).tI = ((min nn ll : Nat) : Int) := by
    rw [SX.mk2_den]
    simp only [SX.den, ap2, U.tIi]; omega
   have hvals : e2.vals ((e2.appX (e2.takeX x k) (e2.appX (e2.takeX y (SX.mk2 51 n l)) (e2.dropX x (SX.mk2 40 k (SX.mk2 51 n l))))).den S ρ) =
     (e2.vals (x.den S ρ)).take (kk * e2.stride) ++ ((e2.vals (y.den S ρ)).take (min nn ll * e2.stride) ++ (e2.vals (x.den S ρ)).drop (kk * e2.stride + min nn ll * e2.stride)) := by
    rw [En.vals_app, En.vals_app, En.vals_take, En.vals_take, En.vals_drop, hK, hm, ZJu]
    have : ((SX.mk2 40 k (SX.mk2 51 n l)).den S ρ).tI.toNat = kk + min nn ll := by
     rw [SX.mk2_den]
     have e1 : ((SX.f2 40 k (SX.mk2 51 n l)).den S ρ).tI = (k.den S ρ).tI + ((SX.mk2 51 n l).den S ρ).tI := rfl
     rw [e1, hm]; omega
    rw [this, Nat.add_mul]
   have main : ∃ w', (match (if (b.den S ρ).tI < 0 then none else some (⟨(b.den S ρ).tI.toNat, (0 : Int).toNat + (if (cc.den S ρ).tI = 0 then (z.den S ρ).tI else (k.den S ρ).tI).toNat * sz, none⟩ : Addr)) with
     | some a => (storeCells a ((e2.vals (y.den S ρ)).take (min nn ll * e2.stride))).run P w = .ok () w' | none => w' = w) ∧
     ∃ spare', ((e2.vals (x.den S ρ)).take (kk * e2.stride) ++ ((e2.vals (y.den S ρ)).take (min nn ll * e2.stride) ++ (e2.vals (x.den S ρ)).drop (kk * e2.stride + min nn ll * e2.stride)) ++ spare').length = (e2.vals (x.den S ρ) ++ spare).length /\ Sat w0 (Zg (row (b.den S ρ).tI.toNat 0 ((e2.vals (x.den S ρ)).take (kk * e2.stride) ++ ((e2.vals (y.den S ρ)).take (min nn ll * e2.stride) ++ (e2.vals (x.den S ρ)).drop (kk * e2.stride + min nn ll * e2.stride)) ++ spare') e2.nf) (Zg (Ze S ρ w0 (l1 ++ l2)) F)) w' := by
    have same : (e2.vals (y.den S ρ)).take (min nn ll * e2.stride) = [] -> ∃ spare', ((e2.vals (x.den S ρ)).take (kk * e2.stride) ++ ((e2.vals (y.den S ρ)).take (min nn ll * e2.stride) ++ (e2.vals (x.den S ρ)).drop (kk * e2.stride + min nn ll * e2.stride)) ++ spare').length = (e2.vals (x.den S ρ) ++ spare).length /\ Sat w0 (Zg (row (b.den S ρ).tI.toNat 0 ((e2.vals (x.den S ρ)).take (kk * e2.stride) ++ ((e2.vals (y.den S ρ)).take (min nn ll * e2.stride) ++ (e2.vals (x.den S ρ)).drop (kk * e2.stride + min nn ll * e2.stride)) ++ spare') e2.nf) (Zg (Ze S ρ w0 (l1 ++ l2)) F)) w := by
     intro h0
     have : min nn ll * e2.stride = 0 := by rw [<- hnewlen, h0]; rfl
     refine ⟨spare, ?_⟩
     rw [h0, this, Nat.add_zero, List.nil_append, List.take_append_drop]
     exact ⟨rfl, hsat⟩
    by_cases hneg : (b.den S ρ).tI < 0
    ·refine ⟨w, by simp [hneg], same ?_⟩
     have hc0 : (cap.den S ρ).tI = 0 := g3.resolve_left (by omega)
     rw [hc0] at g1
     simp at g1
     have : (e2.vals (x.den S ρ)).length = 0 := by rw [g1.1]; rfl
     have hsp0 : spare.length = 0 := by rw [g1.2]; rfl
     exact ZJC (by rw [hnewlen]; omega)
    ·simp only [if_neg hneg]
     by_cases hc0 : (cc.den S ρ).tI = 0
     ·have hl0 : ll = 0 := by omega
      have hnil : (e2.vals (y.den S ρ)).take (min nn ll * e2.stride) = [] := ZJC (by rw [hnewlen, hl0]; simp)
      refine ⟨w, ?_, same hnil⟩
      rw [hnil]; rfl
     ·obtain ⟨w', spare', hrun, hlen, hs'⟩ := Zqu (P := P) (p := kk) (s := e2.stride) (new := (e2.vals (y.den S ρ)).take (min nn ll * e2.stride)) hsat hkk (by rw [hnewlen]; omega) (fun v hv => En.vals_one _ _ v (List.mem_of_mem_take hv))
      rw [hnewlen] at hlen hs'
      refine ⟨w', ?_, spare', hlen, hs'⟩
      rw [if_neg hc0, hK, hs2]
      simpa using hrun
   obtain ⟨w', hrun, spare', hlen', hs'⟩ := main
   refine ⟨w', .inl ⟨goInt (min nn ll : Nat), ?_, YA S ρ w0 hst hn hk ?_ ?_⟩⟩
   ·rw [hex, hargs, hdv]
    refine ZH (s := Builtin.copy_ c.argTypes o.type #[_, ev s]) (ZdS (cells := e2.vals (y.den S ρ)) t0 hu hsz ?_ ?_)
    ·rw [<- hs1, hs2]; exact hx
    ·rw [<- hs1, hs2]
     by_cases hneg : (b.den S ρ).tI < 0
     ·rw [if_pos hneg] at hrun ⊢; exact hrun
     ·rw [if_neg hneg, hs2] at hrun; rw [if_neg hneg]; exact hrun
   ·rw [Zw, Zc, hr]
    refine hs'.mono fun y' hy => Zo (fun z' hz' => ?_) (fun _ h => h) y' hy
    refine ⟨spare', ?_, g2, g3, ?_⟩
    ·rw [hvals, <- ZJs, hlen', ZJs]; exact g1
    ·rw [hvals]; exact hz'
   ·right
    simp only [SV.den, SC.den]
    rw [hm]; rfl
  ·exact h.elim
 ·exact h.elim
end
end
end Go.Eng
namespace Go.Eng
noncomputable section
open Go.RowKit (Below)
open Go.ChangeMaps (setBlock)
theorem ZeJ {kk : MK} {v : MV} {e : MapEntry} {k : Int} (hk : e.key = kk.val k) (hko : kk.ok k) : ∀ {L : List MapEntry} {left : List (Int × Int)}, (∀ p ∈ left, kk.ok p.1) -> e ∈ L -> (L.map (·.born)).Nodup -> (L.map (·.key)).Nodup →
  L.map (fun e => (e.key, e.val)) = left.map (fun p => (kk.val p.1, v.val [p.2])) →
  Zbs left k = true /\ e.val = v.val [Zhb 0 left k] /\ (L.filter (fun x => x.born != e.born)).map (fun e => (e.key, e.val)) = (Zee left k).map (fun p => (kk.val p.1, v.val [p.2]))
 | [], left, _, h, _, _, _ => by cases h
 | x :: L, [], _, h, _, _, he => by cases he
 | x :: L, (p, y) :: left, ho, h, hb, hn, he => by
  simp only [ZJw, List.cons.injEq, Prod.mk.injEq] at he
  obtain ⟨⟨h1, h2⟩, h3⟩ := he
  simp only [ZJw, List.nodup_cons] at hb hn
  rcases List.mem_cons.1 h with rfl | hm
  ·have hpk : p = k := by rw [h1] at hk; exact MK.val_inj (ho _ ZJv) hko hk
   subst hpk
   refine ⟨by simp [Zbs], by simp [Zhb, h2], ?_⟩
   have : (e :: L).filter (fun x => x.born != e.born) = L := by
    rw [List.filter_cons_of_neg (by simp)]
    rw [List.filter_eq_self]
    intro z hz
    have : z.born ≠ e.born := fun hc => hb.1 (by rw [<- hc]; exact List.mem_map_of_mem hz)
    simpa using this
   rw [this, h3]
   simp [Zee]
  ·have hpk : p ≠ k := fun hc => hn.1 (by rw [h1, hc, <- hk]; exact List.mem_map_of_mem hm)
   have hxb : x.born ≠ e.born := fun hc => hb.1 (by rw [hc]; exact List.mem_map_of_mem hm)
   obtain ⟨i1, i2, i3⟩ := ZeJ hk hko (fun q hq => ho q (ZJt _ hq)) hm hb.2 hn.2 h3
   refine ⟨by simp [Zbs, hpk, i1], by simp [Zhb, hpk, i2], ?_⟩
   rw [List.filter_cons_of_pos (by simpa using hxb)]
   simp only [Zee, if_neg hpk, ZJw, h1, h2, i3]
theorem Zic {kk : MK} {v : MV} {L : List MapEntry} {m : List (Int × Int)} (h : L.map (fun e => (e.key, e.val)) = m.map (fun p => (kk.val p.1, v.val [p.2]))) (hn : (m.map (·.1)).Nodup) (ho : ∀ p ∈ m, kk.ok p.1) : (L.map (·.key)).Nodup := by
 have e : L.map (·.key) = m.map (fun p => kk.val p.1) := by
  have := congrArg (List.map Prod.fst) h
  simpa [List.map_map, Function.comp_def] using this
 rw [e]
 have hn' : m.Pairwise (fun a b => a.1 ≠ b.1) := List.pairwise_map.1 hn
 exact List.pairwise_map.2 (hn'.imp_of_mem fun ha hb hab hc => hab (MK.val_inj (ho _ ha) (ho _ hb) hc))
theorem Zp7 {k : Int} {q : Int × Int} : ∀ {l : List (Int × Int)}, q ∈ Zee l k -> q ∈ l
 | [], h => h
 | (a, b) :: l, h => by
  unfold Zee at h
  split at h
  ·exact ZJt _ h
  ·rcases List.mem_cons.1 h with h | h
   ·rw [h]; exact ZJv
   ·exact ZJt _ (Zp7 h)
theorem Zzs {kk : MK} {v : MV} {es : Array MapEntry} {clock : Nat} {m left : List (Int × Int)} {cur : List Int} {seen : Array Nat} (h : ZzD kk v es clock m left cur seen) {e : MapEntry} (he : e ∈ (leftOf es seen).toList) :
  ∃ k, kk.ok k /\ e.key = kk.val k /\ Zbs left k = true /\ e.val = v.val [Zhb 0 left k] /\ ZzD kk v es clock m (Zee left k) [k] (seen.push e.born) := by
 obtain ⟨⟨m1, m2, mo, m3, m4⟩, h2, hlo, h3⟩ := h
 have hl : (leftOf es seen).toList = es.toList.filter (fun e => !seen.contains e.born) := by unfold leftOf; simp
 rw [hl] at he
 have hes : e ∈ es.toList := (List.mem_filter.1 he).1
 have hmem := List.mem_map_of_mem (f := fun e : MapEntry => (e.key, e.val)) he
 rw [h2] at hmem
 obtain ⟨p, hp, hpe⟩ := List.mem_map.1 hmem
 simp only [Prod.mk.injEq] at hpe
 have hk : e.key = kk.val p.1 := hpe.1.symm
 have hb : ((es.toList.filter (fun e => !seen.contains e.born)).map (·.born)).Nodup := m3.sublist ((List.filter_sublist).map _)
 have hn : ((es.toList.filter (fun e => !seen.contains e.born)).map (·.key)).Nodup := (Zic m1 m2 mo).sublist ((List.filter_sublist).map _)
 obtain ⟨i1, i2, i3⟩ := ZeJ hk (hlo _ hp) hlo he hb hn h2
 refine ⟨p.1, hlo _ hp, hk, i1, i2, ⟨m1, m2, mo, m3, m4⟩, ?_, fun q hq => ?_, fun k hk' => ?_⟩
 ·rw [<- i3, List.filter_filter]
  congr 1
  apply List.filter_congr
  intro x _
  by_cases hx : x.born = e.born <;> simp [Array.contains_push, hx]
 ·exact hlo q (Zp7 hq)
 ·cases hk'; exact ⟨e, hes, ⟨seen, rfl⟩, hk, hlo _ hp⟩
section
variable {G : Type} (S : Sig G) (ρ : Env G) (w0 : World) {P : Program}
theorem ZBs (f : Nat) (a : SX) : (SX.f1 f a).den S ρ = ap1 f (a.den S ρ) := rfl
theorem ZAP (f : Nat) (a b : SX) : (SX.f2 f a b).den S ρ = ap2 f (a.den S ρ) (b.den S ρ) := rfl
theorem ZBK (f : Nat) (a b c : SX) : (SX.f3 f a b c).den S ρ = ap3 f (a.den S ρ) (b.den S ρ) (c.den S ρ) := rfl
theorem Zz8 (b : Bool) : (SX.bool b).den S ρ = .bool b := rfl
theorem Zwi (n : Int) : (SX.int n).den S ρ = .int n := rfl
theorem ZlR {v : MV} {e : SX} {c : Bool × List SC} (h : ZAg v e = some c) : Zdx S ρ c = v.val [(e.den S ρ).tI] := by
 unfold ZAg at h
 split at h
 ·cases h; rfl
 ·cases h
  simp only [Zdx, SC.den, MV.val, Fd.val]
  rw [SX.mk1_den]
  simp only [ZBs, ap1]
  rw [SX.mk2_den]
  simp [SX.den, ap2, bne]
 ·cases h
  simp [Zdx, SC.den, MV.val, Fd.val]
 ·cases h
  simp [Zdx, SC.den, MV.val, Fd.val]
 ·cases h; exact Zqy S ρ e
 ·cases h
theorem MK.at_upd (n : Nat) {kk : MK} {k : Int} (h : kk.ok k) : ∃ u : U G, (kk.atX n).den S (YX S ρ n [kk.atS] [u]) = .int k /\ Zdx S (YX S ρ n [kk.atS] [u]) (false, [kk.atC n]) = kk.val k := by
 cases kk with
 | int k' => exact ⟨.int k, ZcV S ρ n k, by simp only [Zdx, MK.atC, SC.den, MK.atS, ZcV, U.tIi, MK.val]⟩
 | str =>
  obtain ⟨l, rfl⟩ := h
  have e : (SX.at .bytes n).den S (YX S ρ n [.bytes] [.bytes l]) = .bytes l := by simp [SX.den, YX, Env.upd, U.co]
  refine ⟨.bytes l, ?_, ?_⟩
  ·show ap1 35 ((SX.at .bytes n).den S (YX S ρ n [.bytes] [.bytes l])) = _
   rw [e]; rfl
  ·simp only [Zdx, MK.atC, SC.den, MK.atS, e, U.tBi, MK.val, ZJu, Yd]
theorem MK.keyC_den {kk : MK} {k : SX} : Zdx S ρ (false, [kk.keyC k]) = kk.val (k.den S ρ).tI := by
 cases kk with
 | int k' => rfl
 | str =>
  simp only [MK.keyC, Zdx, SC.den, MK.val]
  split
  ·simp only [SX.den, ap1, U.tIi, ZJu, Yd]
  ·rw [SX.mk1_den]; simp only [SX.den, ap1, U.tBi]
theorem Zcy {r : SX} {kk : MK} {v : MV} {b m l c : SX} : ∀ {hp rest : List Ch}, ZbE r hp = some (kk, v, b, m, l, c, rest) -> ∃ l1 l2, hp = l1 ++ .itr kk v b m r l c :: l2 /\ rest = l1 ++ l2
 | [], rest, h => by cases h
 | d :: t, rest, h => by
  have lift : ∀ q, ZbE r t = some (kk, v, b, m, l, c, q) -> rest = d :: q -> ∃ l1 l2, d :: t = l1 ++ .itr kk v b m r l c :: l2 /\ rest = l1 ++ l2 := by
   intro q hr he
   obtain ⟨l1, l2, h1, h2⟩ := Zcy hr
   exact ⟨d :: l1, l2, by rw [h1]; rfl, by rw [he, h2]; rfl⟩
  cases d with
  | itr kk' v' b' m' r' l' c' =>
   simp only [ZbE, ZJr] at h
   split at h
   ·rename_i hb; cases h; rw [<- SX.bq_eq hb]; exact ⟨[], t, rfl, rfl⟩
   ·obtain ⟨⟨a1, a2, a3, a4, a5, a6, q⟩, hr, h⟩ := Zb h; cases h; exact lift q hr rfl
  | _ => simp only [ZbE] at h; obtain ⟨⟨a1, a2, a3, a4, a5, a6, q⟩, hr, h⟩ := Zb h; cases h; exact lift q hr rfl
theorem ZpL {F : Zd} {w : World} {kk : MK} {v : MV} {r b m l c : SX} {hp rest : List Ch} (h : ZbE r hp = some (kk, v, b, m, l, c, rest)) (hs : Sat w0 (Zg (Ze S ρ w0 hp) F) w) :
  ∃ es clock seen, 0 <= (b.den S ρ).tI /\ 0 <= (r.den S ρ).tI /\ ZzD kk v es clock (m.den S ρ).tM (l.den S ρ).tM (c.den S ρ).tN seen ∧
   w.heap[(b.den S ρ).tI.toNat]? = some (.map es clock) /\ w.heap[(r.den S ρ).tI.toNat]? = some (.mapIter (some (b.den S ρ).tI.toNat) clock seen clock) ∧
   Sat w0 (Zg (Zf7 (r.den S ρ).tI.toNat (.mapIter (some (b.den S ρ).tI.toNat) clock seen clock)) (Zg (Zf7 (b.den S ρ).tI.toNat (.map es clock)) (Zg (Ze S ρ w0 rest) F))) w := by
 obtain ⟨l1, l2, rfl, rfl⟩ := Zcy h
 rw [Yf, Zc] at hs
 have hs : Sat w0 (Zg (Zlm kk v (b.den S ρ) (m.den S ρ) (r.den S ρ) (l.den S ρ) (c.den S ρ)) (Zg (Ze S ρ w0 (l1 ++ l2)) F)) w := hs
 unfold Zlm at hs
 obtain ⟨h1, hs⟩ := Zt hs
 obtain ⟨h2, hs⟩ := Zt hs
 obtain ⟨es, hs⟩ := ZaB hs
 obtain ⟨clock, hs⟩ := ZaB hs
 obtain ⟨seen, hs⟩ := ZaB hs
 obtain ⟨h3, hs⟩ := Zt hs
 rw [Zc] at hs
 have hs' := hs
 rw [Zq] at hs'
 exact ⟨es, clock, seen, h1, h2, h3, hs.obj.2.2.1, hs'.obj.2.2.1, hs'⟩
theorem Zxm {F : Zd} {st : St} {t : TypeId} {x : Operand} {w : World} {K : SV -> St -> VC} {ev : Operand -> Value} {o : Oper} (ho : o.op = .range t x) (hst : HSt S w0 F st ρ w) (hL : ∀ x, (lk st.fr x).R S ρ (ev x)) (h : (lop P st (.range t x) K).den S ρ) :
  LOk S ρ w0 F st K ((execOp ev o).run P w) := by
 simp only [lop] at h
 split at h
 ·rename_i kt et b hu hx
  split at h
  ·rename_i kk v m rest htk
   obtain ⟨es, clock, hb, hmo, hheap, hput⟩ := Zfy S ρ w0 htk hst.hp
   have hx' := R_one S ρ (hx ▸ hL x)
   simp only [SC.den] at hx'
   rw [if_neg (by omega)] at hx'
   obtain ⟨l1, l2, e1, e2⟩ := Zcl htk
   obtain ⟨g1, g2, g3⟩ := ZiU (Zb5 S ρ h).1
   have hlt : Ch.lt st.n (.map kk v b m) = true := List.all_eq_true.1 g2 _ (by rw [e1]; simp)
   simp only [Ch.lt, ZJr] at hlt
   have hbl : b.lt st.n = true := by revert hlt; cases b.lt st.n <;> simp
   have hml : m.lt st.n = true := by revert hlt; rw [hbl]; simp
   refine ⟨{ w with heap := w.heap.push (.mapIter (some (b.den S ρ).tI.toNat) clock #[] clock) }, .inl ⟨.pointer (some ⟨w.heap.size, 0, none⟩), ?_, ?_⟩⟩
   ·unfold execOp; rw [ho]
    refine ZH (s := Instr.range t (ev x)) ?_
    rw [hx']
    simp [Instr.range, run_underlying hu, MapKept.run_getObj_map hheap, newObj, Sem.run, Result.andThen]
   ·have hE := Yv S ρ st.n [Srt.int] [U.int (w.heap.size : Nat)]
    refine Ys S ρ w0 (ns := []) (rest := rest) hst (by simp) h (fun c hc => by rw [e1]; rw [e2] at hc; rcases List.mem_append.1 hc with hc | hc <;> simp [hc]) [.int (w.heap.size : Nat)] rfl (ZiO S ρ _ _) ?_ ?_
    ·have hs := hst.hp
     rw [e1, Yf, Zc, <- e2] at hs
     obtain ⟨_, hs⟩ := Zt hs
     obtain ⟨es', hs⟩ := ZaB hs
     obtain ⟨clock', hs⟩ := ZaB hs
     obtain ⟨_, hs⟩ := Zt hs
     have heq := hs.obj.2.2.1
     rw [hheap] at heq
     cases heq
     refine (Sat.newObj hs (.mapIter (some (b.den S ρ).tI.toNat) clock #[] clock) rfl).mono (fun y hy => ?_)
     rw [<- Zc] at hy
     refine Zo (fun z hz => ?_) (fun _ h => h) y hy
     simp only [Ch.den, Zlm, ZcV, U.tIi]
     rw [SX.den_ext S hE hbl, SX.den_ext S hE hml]
     refine ⟨hb, by omega, es, clock, #[], ⟨hmo, ?_, hmo.2.2.1, fun k hk => ?_⟩, ?_⟩
     ·rw [List.filter_eq_self.2 (by simp)]; exact hmo.1
     ·simp [SX.den, ap1] at hk
     ·rw [ZP]; simpa using hz
    ·right
     simp only [SV.den, SC.den, ZcV, U.tIi]
     rw [if_neg (by omega)]; simp
  ·exact h.elim
 ·exact h.elim
theorem ZAm {F : Zd} {st : St} {x : Operand} {str : Bool} {w : World} {K : SV -> St -> VC} {ev : Operand -> Value} {o : Oper} (ho : o.op = .next x str) (hst : HSt S w0 F st ρ w) (hL : ∀ x, (lk st.fr x).R S ρ (ev x)) (h : (lop P st (.next x str) K).den S ρ) :
  LOk S ρ w0 F st K ((execOp ev o).run P w) := by
 simp only [lop] at h
 split at h
 ·rename_i r oo hx
  cases str
  case true => exact h.elim
  cases hoo : Nat.beq oo 0
  ·rw [hoo] at h; exact h.elim
  rw [hoo] at h
  have hoo := ZJo hoo
  subst hoo
  simp only [cond_false, cond_true] at h
  split at h
  ·rename_i kk v b m l cur rest htk
   obtain ⟨es, clock, seen, hb, hr, hok, hm, hi, hs⟩ := ZpL S ρ w0 htk hst.hp
   have hx' := R_one S ρ (hx ▸ hL x)
   simp only [SC.den] at hx'
   rw [if_neg (by omega)] at hx'
   obtain ⟨ha, hb2⟩ := h
   have hz : ((eEq (ZdX l) (.int 0)).den S ρ) = .bool (((l.den S ρ).tM.length : Int) == 0) := by
    rw [Za1, ZlC]; rfl
   have hll : (leftOf es seen).toList = es.toList.filter (fun e => !seen.contains e.born) := by unfold leftOf; simp
   have hlen : (leftOf es seen).size = (l.den S ρ).tM.length := by
    have := congrArg List.length hok.2.1
    simp only [ZJx] at this
    rw [<- this, <- hll]; simp
   rcases run_next_at (P := P) w o.type (r.den S ρ).tI.toNat (b.den S ρ).tI.toNat clock clock seen es clock hi hm hok.1.2.2.2.2 (ZJd _) with ⟨k1, k2⟩ | ⟨e, k1, w1, k2, k3⟩
   ·have hz1 : ((eEq (ZdX l) (.int 0)).den S ρ).tP := by
     rw [hz]; simp only [U.tPi]; rw [<- hlen, k1]; rfl
    refine ⟨w, .inl ⟨.tuple #[.bool false], ?_, ?_⟩⟩
    ·unfold execOp; rw [ho]
     refine ZH (s := Instr.next (ev x) false o.type) ?_
     rw [hx']; simpa using k2
    ·have hn : SX.bq (eEq (ZdX l) (.int 0)) (.bool false) = false := by
      cases hq : SX.bq (eEq (ZdX l) (.int 0)) (.bool false)
      ·rfl
      ·rw [SX.bq_eq hq] at hz1; simp [SX.den] at hz1
     rw [hn] at ha
     simp only [cond_false] at ha
     have ha := ha hz1
     refine YA S ρ w0 (ns := [eEq (ZdX l) (.int 0)]) hst (by intro y hy; rw [ZJg] at hy; subst hy; exact hz1) ha ?_ (.inr rfl)
     rw [Zw, Zc]
     exact hs.drop.mono (fun y hy => Zo (fun z hz => ⟨hb, es, clock, hok.1, hz⟩) (fun _ h => h) y hy)
   ·have hne : (l.den S ρ).tM.length ≠ 0 := by
     rw [<- hlen]; intro hc
     have : (leftOf es seen).toList = [] := ZJC (by simpa using hc)
     rw [this] at k1; cases k1
    have hn : SX.bq (eEq (ZdX l) (.int 0)) (.bool true) = false := by
     cases hq : SX.bq (eEq (ZdX l) (.int 0)) (.bool true)
     ·rfl
     ·rw [SX.bq_eq hq] at hz
      simp [SX.den] at hz
      exact absurd (by rw [hz]; rfl) hne
    rw [hn] at hb2
    simp only [cond_false] at hb2
    split at hb2
    ·rename_i c hc
     obtain ⟨k, hk0, hk1, hk2, hk3, hk4⟩ := Zzs hok k1
     obtain ⟨u, hu2, hu3⟩ := MK.at_upd S ρ st.n hk0
     refine ⟨setBlock w1 (r.den S ρ).tI.toNat (.mapIter (some (b.den S ρ).tI.toNat) clock (seen.push e.born) clock), .inl ⟨.tuple #[.bool true, e.key, e.val], ?_, ?_⟩⟩
     ·unfold execOp; rw [ho]
      refine ZH (s := Instr.next (ev x) false o.type) ?_
      rw [hx']; simpa using k3
     ·obtain ⟨l1, l2, e1, e2⟩ := Zcy htk
      have hok' := ZiU (Zb5 S ρ hb2).1
      have hlt : Ch.lt st.n (.itr kk v b m r l cur) = true := List.all_eq_true.1 hok'.2.1 _ (by rw [e1]; simp)
      simp only [Ch.lt, ZJr] at hlt
      have hbl : b.lt st.n = true := by revert hlt; cases b.lt st.n <;> simp
      have hml : m.lt st.n = true := by revert hlt; rw [hbl]; cases m.lt st.n <;> simp
      have hrl : r.lt st.n = true := by revert hlt; rw [hbl, hml]; cases r.lt st.n <;> simp
      have hlll : l.lt st.n = true := by revert hlt; rw [hbl, hml, hrl]; cases l.lt st.n <;> simp
      have hE := Yv S ρ st.n [kk.atS] [u]
      have hat := hu2
      refine Ys S ρ w0 (ns := []) (rest := rest) hst (by simp) hb2 (fun c hc => by rw [e1]; rw [e2] at hc; rcases List.mem_append.1 hc with hc | hc <;> simp [hc]) [u] rfl ?_ ?_ ?_
      ·intro y hy
       rw [ZJg] at hy; subst hy
       rw [ZdW]
       simp only [ZAP, ap2, hat, SX.den_ext S hE hlll, U.tPi, U.tIi]
       exact hk2
      ·have hs1 : Sat w0 (Zg (Zf7 (r.den S ρ).tI.toNat (.mapIter (some (b.den S ρ).tI.toNat) clock seen clock)) (Zg (Zf7 (b.den S ρ).tI.toNat (.map es clock)) (Zg (Ze S ρ w0 rest) F))) w1 := by
        rcases k2 with rfl | rfl
        ·exact hs
        ·exact Sat.drew hs _
       refine (hs1.setObj (.mapIter (some (b.den S ρ).tI.toNat) clock (seen.push e.born) clock) rfl).mono (fun y hy => ?_)
       rw [<- Zc] at hy
       refine Zo (fun z hz => ?_) (fun _ h => h) y hy
       simp only [Ch.den, Zlm]
       rw [SX.den_ext S hE hbl, SX.den_ext S hE hml, SX.den_ext S hE hrl, Zj9, SX.den_ext S hE hlll, hat]
       refine ⟨hb, hr, es, clock, seen.push e.born, ?_, by rw [ZP]; exact hz⟩
       simp only [ZAP, ZBs, ap2, ap1, hat, U.tIi, U.tNi]
       exact hk4
      ·right
       have hcd := ZlR S (YX S ρ st.n [kk.atS] [u]) hc
       rw [ZaD] at hcd
       simp only [ZBK, ap3, Zwi, hat, SX.den_ext S hE hlll, U.tIi] at hcd
       simp only [SV.den, ZJw, List.map_nil, hcd, hk1, hk3, hu3]
       simp only [Zdx, SC.den, Zz8, U.tQi]
    ·exact hb2.elim
  ·exact h.elim
 ·exact h.elim
theorem ZuF {F : Zd} {st : St} {x : Operand} {w : World} {K : SV -> St -> VC} {ev : Operand -> Value} {o : Oper} (ho : o.op = .entry x) (hst : HSt S w0 F st ρ w) (hL : ∀ x, (lk st.fr x).R S ρ (ev x)) (h : (lop P st (.entry x) K).den S ρ) :
  LOk S ρ w0 F st K ((execOp ev o).run P w) := by
 simp only [lop] at h
 split at h
 ·rename_i r oo hx
  cases hoo : Nat.beq oo 0
  ·rw [hoo] at h; exact h.elim
  rw [hoo] at h
  have hoo := ZJo hoo
  subst hoo
  simp only [cond_true] at h
  split at h
  ·rename_i kk v b m l cur rest htk
   obtain ⟨es, clock, seen, hb, hr, hok, hm, hi, hs⟩ := ZpL S ρ w0 htk hst.hp
   have hx' := R_one S ρ (hx ▸ hL x)
   simp only [SC.den] at hx'
   rw [if_neg (by omega)] at hx'
   split at h
   ·rename_i k z
    cases hq : SX.bq z (.f1 152 (.int 0))
    ·rw [hq] at h; exact h.elim
    rw [hq] at h
    simp only [cond_true] at h
    split at h
    ·rename_i c hc
     have hcur : (((SX.f2 122 k z).den S ρ).tN) = [(k.den S ρ).tI] := by
      rw [SX.bq_eq hq]; simp [SX.den, ap1, ap2]
     obtain ⟨e, he, ⟨s, hse⟩, hk, hko⟩ := hok.2.2.2 _ hcur
     rw [hse] at hi
     have hrun := run_entry_at (P := P) w _ _ clock s es clock e hi hm he hok.1.2.2.2.1
     refine ⟨w, .inl ⟨.tuple #[e.key, e.val], ?_, ?_⟩⟩
     ·unfold execOp; rw [ho]
      refine ZH (s := Instr.entry (ev x)) ?_
      rw [hx']; simpa using hrun
     ·refine YA S ρ w0 (ns := []) hst (by simp) h hst.hp (.inr ?_)
      have hval := (ZeJ hk hko hok.1.2.2.1 he hok.1.2.2.2.1 (Zic hok.1.1 hok.1.2.1 hok.1.2.2.1) hok.1.1).2.1
      have hcd := ZlR S ρ hc
      rw [ZaD] at hcd
      simp only [ZBK, ap3, Zwi, U.tIi] at hcd
      simp only [SV.den, ZJw, List.map_nil, hcd, hk, hval, MK.keyC_den]
    ·exact h.elim
   ·exact h.elim
  ·exact h.elim
 ·exact h.elim
/-! ### A text's bytes -/
theorem Znk {e : TypeId} (s : ByteArray) (w : World) : ∃ c, s.size <= c /\ (Conv.stringToBytes e s).run P w =
  .ok (.slice (some ⟨w.heap.size, 0, none⟩) s.size c) { w.drew with heap := w.heap.push (.cells (s.data.toList.map (fun b : UInt8 => Value.int .u8 (b.toNat : Nat)) ++ List.replicate (c - s.size) (Value.int .u8 0)).toArray e (c, c + 1)) } := by
 obtain ⟨c, hc, hr⟩ := Zhf (P := P) s.size 0 e w
 refine ⟨c, hc, ?_⟩
 have hs : s.data.size = s.size := rfl
 unfold Conv.stringToBytes
 rw [Sem.run_bind, hr, Result.andThen_ok]
 simp only [Sem.run_bind, ZV, Result.andThen_ok]
 have hl : (Array.map (fun b : UInt8 => Value.int .u8 (b.toNat : Nat)) s.data ++ Array.replicate (c - s.size) (Value.int .u8 0)).size = c := by simp [hs]; omega
 have hm : (s.data.toList.map (fun b : UInt8 => Value.int .u8 (b.toNat : Nat)) ++ List.replicate (c - s.size) (Value.int .u8 0)).toArray = Array.map (fun b : UInt8 => Value.int .u8 (b.toNat : Nat)) s.data ++ Array.replicate (c - s.size) (Value.int .u8 0) := by
  apply Array.ext'; simp
 rw [hm]
 generalize Array.map (fun b : UInt8 => Value.int .u8 (b.toNat : Nat)) s.data ++ Array.replicate (c - s.size) (Value.int .u8 0) = A at hl ⊢
 have h1 : (Array.push w.heap (Obj.cells A e)).modify w.heap.size (fun | .cells c elem (lo, hi) => .cells c elem (if lo == hi then (A.size, A.size + 1) else (min lo A.size, max hi (A.size + 1))) | o => o) = w.heap.push (.cells A e (c, c + 1)) := by
  apply Array.ext_getElem?
  intro i
  rw [Array.getElem?_modify]
  by_cases hi : w.heap.size = i
  ·subst hi; simp [hl]
  ·simp [hi, Array.getElem?_push, Ne.symm hi]
 simp [markStringish, shape, freeze, Sem.run, World.shape?, World.freeze]
 refine ⟨?_, rfl, rfl⟩
 rw [<- h1]
 congr 1
 funext x
 cases x <;> simp
theorem ZmG {F : Zd} {st : St} {src dst : TypeId} {x : Operand} {w : World} {K : SV -> St -> VC} {ev : Operand -> Value} {o : Oper} (ho : o.op = .convert src dst x) (hst : HSt S w0 F st ρ w) (hL : ∀ x, (lk st.fr x).R S ρ (ev x)) (h : (lop P st (.convert src dst x) K).den S ρ) :
  LOk S ρ w0 F st K ((execOp ev o).run P w) := by
 simp only [lop] at h
 split at h
 ·rename_i d e s h1 h2 h3
  split at h
  ·rename_i h4
   cases k1 : s.lt st.n
   ·rw [k1] at h; exact h.elim
   cases k2 : (SX.mk1 31 s).lt st.n
   ·rw [k1, k2] at h; exact h.elim
   rw [k1, k2] at h
   simp only [cond_true] at h
   obtain ⟨hn, hf⟩ := ZA S ρ h
   have hx := R_one S ρ (h3 ▸ hL x)
   obtain ⟨c, hc, hrun⟩ := Znk (P := P) (e := e) ⟨(s.den S ρ).tB.toArray⟩ w
   have hsz : (⟨(s.den S ρ).tB.toArray⟩ : ByteArray).size = (s.den S ρ).tB.length := rfl
   rw [hsz] at hc hrun
   have hlen : ((SX.mk1 31 s).den S ρ).tI = ((s.den S ρ).tB.length : Nat) := by rw [SX.mk1_den]; simp [SX.den, ap1]
   have hE := Yv S ρ st.n [Srt.int, Srt.int] [U.int (w.heap.size : Nat), U.int (c : Nat)]
   have hb' : (SX.at .int st.n).den S (YX S ρ st.n [.int, .int] [.int (w.heap.size : Nat), .int (c : Nat)]) = .int (w.heap.size : Nat) := by simp [SX.den, YX, Env.upd, U.co]
   have hc' : (SX.at .int (st.n + 1)).den S (YX S ρ st.n [.int, .int] [.int (w.heap.size : Nat), .int (c : Nat)]) = .int (c : Nat) := by simp [SX.den, YX, Env.upd, U.co]
   have hnE := SX.den_ext S hE k2
   refine ⟨{ w.drew with heap := w.heap.push (.cells ((s.den S ρ).tB.map (fun b : UInt8 => Value.int .u8 (b.toNat : Nat)) ++ List.replicate (c - (s.den S ρ).tB.length) (Value.int .u8 0)).toArray e (c, c + 1)) }, .inl ⟨.slice (some ⟨w.heap.size, 0, none⟩) (s.den S ρ).tB.length c, ?_, Ys S ρ w0 (ns := []) hst hn hf (fun _ h => h) [.int (w.heap.size : Nat), .int (c : Nat)] rfl ?_ ?_ ?_⟩⟩
   ·unfold execOp; rw [ho]
    refine ZH (s := convert src dst (ev x)) ?_
    rw [hx]
    simp only [convert, SC.den, Sem.run_bind, run_underlying h1, run_underlying h2, run_underlying h4, Result.andThen_ok]
    simpa using hrun
   ·intro y hy
    simp only [List.mem_cons, List.not_mem_nil, or_false] at hy
    rcases hy with rfl | rfl
    ·rw [eLe_den, hc', hnE, hlen]; simpa using hc
    ·rw [eLe_den, hb']; simp [SX.den]
   ·simp only [Ch.den]
    rw [hb', hc', SX.den_ext S hE k1]
    refine (Sat.newF (Sat.drew hst.hp (w.drawn + 1)) _ e c (c + 1) ?_).mono (fun y hy => Zo (fun h' hh => ?_) (fun _ h => h) y hy)
    ·simp; omega
    ·refine ⟨List.replicate (c - (s.den S ρ).tB.length) (.int .u8 0), ?_, by simp, .inl (by simp), ?_⟩
     ·simp [En.vals, En.stride]; omega
     ·simpa [En.vals, En.nf] using hh
   ·right
    simp only [SV.den, SC.den]
    rw [hb', hc', hnE, hlen]
    simp [SX.den]
  ·exact h.elim
 ·exact h.elim
end
end
end Go.Eng
namespace Go.Eng
noncomputable section
open Go.RowKit (Below)
section
variable {G : Type} (S : Sig G) (ρ : Env G) (w0 : World) {P : Program}
theorem Zy6 {F : Zd} {st : St} {w : World} {K : SV -> St -> VC} {ev : Operand -> Value} {o : Oper} {c : Call} (ho : o.op = .call c)
  (hst : HSt S w0 F st ρ w) (hL : ∀ x, (lk st.fr x).R S ρ (ev x)) (h : (lop P st (.call c) K).den S ρ) : LOk S ρ w0 F st K ((execOp ev o).run P w) := by
 have hh := h
 unfold lop at hh
 simp only at hh
 split at hh
 ·rename_i hc ha ht
  exact Zq6 S ρ w0 ho hc ha ht hst hL h
 ·rename_i hc ha ht
  exact ZzI S ρ w0 ho hc ha ht hst hL h
 ·rename_i hc ha ht
  exact Zuh S ρ w0 ho hc ha ht hst hL h
 ·rename_i hc ha ht
  exact ZqM S ρ w0 ho hc ha ht hst hL h
 ·exact hh.elim
theorem ZyG {F : Zd} {st : St} {o : Oper} {w : World} {K : SV -> St -> VC} {ev : Operand -> Value} (hst : HSt S w0 F st ρ w) (hL : ∀ x, (lk st.fr x).R S ρ (ev x)) (h : (lop P st o.op K).den S ρ) :
  ∃ w', (∃ v, (execOp ev o).run P w = .ok (.value v) w' /\ ZjT S ρ w0 F st K w' v) \/ ((execOp ev o).run P w = .ok .skip w' /\ ZjT S ρ w0 F st K w' undef) := by
 show LOk S ρ w0 F st K ((execOp ev o).run P w)
 have ho : ∃ o', o.op = o' := ⟨_, rfl⟩
 obtain ⟨o', ho⟩ := ho
 rw [ho] at h
 have hh := h
 unfold lop at hh
 simp only at hh
 split at hh
 ·exact Zr8 S ρ w0 ho hst h
 ·exact ZDW S ρ w0 ho hst hL h
 ·exact Zi2 S ρ w0 ho hst hL h
 ·exact Znn S ρ w0 ho hst h
 ·exact Zhk S ρ w0 ho hst hL h
 ·exact ZtH S ρ w0 ho hst hL h
 ·exact Ziv S ρ w0 ho hst hL h
 ·exact Zy6 S ρ w0 ho hst hL h
 ·exact ZmG S ρ w0 ho hst hL h
 ·exact Zxm S ρ w0 ho hst hL h
 ·exact ZAm S ρ w0 ho hst hL h
 ·exact ZuF S ρ w0 ho hst hL h
 ·exact hh.elim
end
end
end Go.Eng
namespace Go.Eng
noncomputable section
open Go.RowKit (Below)
section
variable {G : Type} (S : Sig G) (w0 : World) (F : Zd) {P : Program} {C : Cx}
def Zcc (S : Sig G) (w0 : World) (F : Zd) (P : Program) (body : Nat -> List SV -> St -> (SV -> St -> VC) -> VC) : Prop :=
 ∀ (f : Nat) (args : List SV) (st : St) (K : SV -> St -> VC) (ρ : Env G) (w : World) (xs : List Value) (R : Ending -> World -> Prop), HSt S w0 F st ρ w -> st.ok = true -> Zaw S ρ args xs -> (body f args st K).den S ρ →
  (∀ ρ' sv st' w' v, Next' S w0 F st ρ ρ' st' w' -> sv.R S ρ' v -> (K sv st').den S ρ' -> R (.returned v) w') -> Calls P f xs.toArray w R
def ZfJ (S : Sig G) (P : Program) (f : FuncId) (sp : Ctr) : Prop := ∀ (ch : Nat -> Bool) (w0 : World) (F : Zd) (ρ : Env G) (w : World) (xs : List Value),
 Zaw S ρ sp.args xs -> (∀ e ∈ sp.reqs, (e.den S ρ).tP) -> Sat w0 (Zg (Ze (S.wc ch) ρ w0 sp.pre) F) w →
 ∃ v w', (callFunc f xs.toArray).run P w = .ok (.value v) w' /\ ∃ ρ', Ext sp.ss.length ρ ρ' /\ sp.res.R S ρ' v /\ Sat w0 (Zg (Ze (S.wc ch) ρ' w0 sp.post) F) w' /\ ∀ x ∈ sp.facts, (x.den S ρ').tP
def ZrL (S : Sig G) (P : Program) (C : Cx) : Prop :=
 (∀ f sps, ZS C.specs f = some sps -> ∀ sp ∈ sps, sp.wf = true /\ Zr S P f sp) ∧
 (∀ f l, ZS C.anns f = some l -> ∀ i sp args, (i, Ann.ghost sp args) ∈ l -> sp.wf = true /\ ZcO S sp) ∧
 (∀ f sps, ZS C.exts f = some sps -> ∀ sp ∈ sps, sp.wf = true /\ ZfJ S P f sp)
theorem ZpV {ρ : Env G} {fr : List SV} {tm : List Value} (h : FrR S ρ fr tm) : ∀ i, (Zdj fr i).R S ρ (tm.getD i undef) := by
 intro i
 induction fr generalizing tm i with
 | nil => exact .inl rfl
 | cons s l ih =>
  cases tm with
  | nil => exact h.elim
  | cons v m =>
   cases i with
   | zero => exact h.1
   | succ i => simpa [ZrC] using ih h.2 i
theorem Zgd {ρ : Env G} {fr : List SV} {a : Act} (h : FrR S ρ fr a.tmps.toList) (x : Operand) : (lk fr x).R S ρ (a.eval x) := by
 cases x with
 | tmp t =>
  have := ZpV S h t
  simp only [lk, Act.eval]
  rw [ZJn] at this
  rw [Array.getD_eq_getD_getElem?]
  simpa using this
 | const v => exact ZmW S ρ v
 | global g =>
  right
  simp only [lk, SV.den, SC.den, Act.eval]
  rw [if_neg (show ¬ ((SX.den S ρ (.int (g : Nat))).tI < 0) by simp only [SX.den, U.tIi]; omega)]; rfl
 | func f => right; rfl
theorem Znz {ρ : Env G} : ∀ {fr : List SV} {tm : List Value} (i : Nat) {sv : SV} {v : Value}, FrR S ρ fr tm -> sv.R S ρ v -> FrR S ρ (ZrI fr i sv) (tm.set i v)
 | [], [], i, sv, v, h, hv => by rw [ZuL]; simp; trivial
 | s :: l, x :: m, 0, sv, v, h, hv => ⟨hv, h.2⟩
 | s :: l, x :: m, i + 1, sv, v, h, hv => ⟨h.1, Znz i h.2 hv⟩
 | [], _ :: _, _, _, _, h, _ => h.elim
 | _ :: _, [], _, _, _, h, _ => h.elim
theorem Zxl {ρ : Env G} {fr : List SV} {a : Act} {dst : Option Tmp} {sv : SV} {v : Value} (h : FrR S ρ fr a.tmps.toList) (hv : sv.R S ρ v) : FrR S ρ (Zac fr dst sv) (a.put dst v).tmps.toList := by
 cases dst with
 | none => exact h
 | some d =>
  simp only [Zac, Act.put, Array.toList_setIfInBounds]
  exact Znz S d h hv
theorem put_defers (a : Act) (dst : Option Tmp) (v : Value) : (a.put dst v).defers = a.defers := by cases dst <;> rfl
theorem Zma {st : St} {ρ : Env G} {w : World} {ns : List SX} (h : HSt S w0 F st ρ w) (hn : ∀ x ∈ ns, (x.den S ρ).tP) : Next' S w0 F st ρ ρ (st.add ns) w :=
 ⟨Ext.refl _ _, ZJd _, rfl, fun _ h => h, ⟨h.hp, fun e he => by
  rcases List.mem_append.1 he with he | he
  ·exact hn e he
  ·exact h.asm e he⟩⟩
theorem ZqS {ρ : Env G} : ∀ {g : SC} {f : Nat} {l : List SC}, Zyl g = some (f, l) -> g.den S ρ = .func (.func f) #[] (l.map (SC.den S ρ)).toArray := by
 intro g
 induction g with
 | fn f => intro f' l h; cases h; rfl
 | cap g x ih _ =>
  intro f l h
  obtain ⟨⟨f', l'⟩, h1, h⟩ := Zb h
  cases h
  simp only [SC.den, ih h1]
  simp
 | _ => intro f l h; cases h
theorem Zg9 {ρ : Env G} {L : Operand -> SV} {ev : Operand -> Value} (hL : ∀ x, (L x).R S ρ (ev x)) : ∀ (l : List Operand), Zaw S ρ (l.map L) (l.map ev)
 | [] => trivial
 | x :: l => ⟨hL x, Zg9 hL l⟩
theorem ZeS {ρ : Env G} : ∀ {a b : List SV} {x y : List Value}, Zaw S ρ a x -> Zaw S ρ b y -> Zaw S ρ (a ++ b) (x ++ y)
 | [], b, [], y, _, h => h
 | s :: a, b, v :: x, y, h, h' => ⟨h.1, ZeS h.2 h'⟩
 | [], _, _ :: _, _, h, _ => h.elim
 | _ :: _, _, [], _, h, _ => h.elim
theorem ZhJ {ρ : Env G} : ∀ (l : List SC), Zaw S ρ (l.map SV.one) (l.map (SC.den S ρ))
 | [] => trivial
 | c :: l => ⟨.inr rfl, ZhJ l⟩
theorem ZaI {f : Nat} {st : St} {ρ : Env G} {w : World} {args : List SV} {K : SV -> St -> VC} {xs : List Value} {R : Ending -> World -> Prop} (hst : HSt S w0 F st ρ w) (hx : Zaw S ρ args xs)
  (hK : ∀ ρ' sv st' w' v, Next' S w0 F st ρ ρ' st' w' -> sv.R S ρ' v -> (K sv st').den S ρ' -> R (.returned v) w') :
  ∀ (sps : List Ctr), (∀ sp ∈ sps, sp.wf = true /\ Zr S P f sp) -> (Y9 st args K sps).den S ρ -> Calls P f xs.toArray w R
 | [], _, h => h.elim
 | sp :: l, hsp, h => by
  simp only [Y9] at h
  split at h
  ·rename_i v hv
   cases hp : Zwb st.asm l v
   case true => rw [hp] at h; exact ZaI hst hx hK l (fun sp hm => hsp sp (ZJt _ hm)) h
   rw [hp] at h
   replace h : v.den S ρ := h
   obtain ⟨hwf, hok⟩ := hsp sp ZJv
   obtain ⟨ch, ρc, F', h1, h2, h3, h4⟩ := ZbD S ρ w0 hwf hst hx hv h
   refine (hok ch w0 F' ρc w xs h1 h2 h3).mono ?_
   rintro e w' ⟨ρc', v, he, rfl, hr, hs, hf⟩
   obtain ⟨ρ', sv, st', hn, hsv, hk⟩ := h4 ρc' w' he hs hf
   exact hK ρ' sv st' w' v hn (hsv v hr) hk
  ·exact ZaI hst hx hK l (fun sp hm => hsp sp (ZJt _ hm)) h
theorem Za6 {f : Nat} {st : St} {ρ : Env G} {w : World} {args : List SV} {K : SV -> St -> VC} {xs : List Value} {R : Ending -> World -> Prop} (hst : HSt S w0 F st ρ w) (hx : Zaw S ρ args xs)
  (hK : ∀ ρ' sv st' w' v, Next' S w0 F st ρ ρ' st' w' -> sv.R S ρ' v -> (K sv st').den S ρ' -> R (.returned v) w') :
  ∀ (sps : List Ctr), (∀ sp ∈ sps, sp.wf = true /\ ZfJ S P f sp) -> (Y9 st args K sps).den S ρ -> ∃ v w', (callFunc f xs.toArray).run P w = .ok (.value v) w' /\ R (.returned v) w'
 | [], _, h => h.elim
 | sp :: l, hsp, h => by
  simp only [Y9] at h
  split at h
  ·rename_i v hv
   cases hp : Zwb st.asm l v
   case true => rw [hp] at h; exact Za6 hst hx hK l (fun sp hm => hsp sp (ZJt _ hm)) h
   rw [hp] at h
   replace h : v.den S ρ := h
   obtain ⟨hwf, hok⟩ := hsp sp ZJv
   obtain ⟨ch, ρc, F', h1, h2, h3, h4⟩ := ZbD S ρ w0 hwf hst hx hv h
   obtain ⟨v, w', hrun, ρc', he, hr, hs, hf⟩ := hok ch w0 F' ρc w xs h1 h2 h3
   obtain ⟨ρ', sv, st', hn, hsv, hk⟩ := h4 ρc' w' he hs hf
   exact ⟨v, w', hrun, hK ρ' sv st' w' v hn (hsv v hr) hk⟩
  ·exact Za6 hst hx hK l (fun sp hm => hsp sp (ZJt _ hm)) h
theorem Zmb {body : Nat -> List SV -> St -> (SV -> St -> VC) -> VC} (hb : Zcc S w0 F P body) (hC : ZrL S P C) {st : St} {f : Nat} {ρ : Env G} {w : World} {args : List SV} {K : SV -> St -> VC} {xs : List Value} {R : Ending -> World -> Prop}
  (hst : HSt S w0 F st ρ w) (hx : Zaw S ρ args xs) (h : (Zw2 P C body st f args K).den S ρ)
  (hK : ∀ ρ' sv st' w' v, Next' S w0 F st ρ ρ' st' w' -> sv.R S ρ' v -> (K sv st').den S ρ' -> R (.returned v) w') :
  ((callFunc f xs.toArray).run P w = .ok (.enter f xs.toArray) w /\ Calls P f xs.toArray w R) \/ (∃ v w', (callFunc f xs.toArray).run P w = .ok (.value v) w' /\ R (.returned v) w') := by
 unfold Zw2 at h
 split at h
 ·exact h.elim
 ·rename_i fn hfn
  cases hnm : (fn.name == "runtime.NumGoroutine")
  ·cases hbd : fn.body.isSome
   ·rw [hbd, hnm] at h
    simp only [cond_false] at h
    split at h
    ·rename_i sps hs
     exact .inr (Za6 S w0 F hst hx hK sps (hC.2.2 f sps hs) h)
    ·exact h.elim
   ·rw [hbd, hnm] at h
    simp only [cond_true, cond_false] at h
    refine .inl ⟨?_, ?_⟩
    ·have hnone : fn.body.isNone = false := by cases hq : fn.body <;> simp [hq] at hbd ⊢
     have hne : fn.name ≠ "runtime.NumGoroutine" := by simpa using hnm
     have hbn : fn.body ≠ none := by intro hq; rw [hq] at hnone; cases hnone
     simp [callFunc, hfn, hne, hbn]
    ·split at h
     ·rename_i sps hs
      exact ZaI S w0 F hst hx hK sps (hC.1 f sps hs) h
     ·cases hok : st.ok
      ·rw [hok] at h; exact h.elim
      ·rw [hok] at h
       exact hb f args st K ρ w xs R hst hok hx h hK
  ·rw [hnm] at h; exact h.elim
theorem Zib {body : Nat -> List SV -> St -> (SV -> St -> VC) -> VC} (hb : Zcc S w0 F P body) (hC : ZrL S P C) {st : St} {o : Oper} {ρ : Env G} {w : World} {K : SV -> St -> VC} {a : Act} {next : Act -> World -> Prop} {Q : Exit -> Act -> World -> Prop}
  (hst : HSt S w0 F st ρ w) (hL : ∀ x, (lk st.fr x).R S ρ (a.eval x)) (h : (ZHa P C body st o K).den S ρ)
  (hK : ∀ ρ' sv st' w' v, Next' S w0 F st ρ ρ' st' w' -> sv.R S ρ' v -> (K sv st').den S ρ' -> next (a.put o.dst v) w') : o.wp P a w next Q := by
 unfold ZHa at h
 cases hq : Yg P o.op
 ·rw [hq] at h
  simp only [cond_false] at h
  have lopcase : (lop P st o.op K).den S ρ -> o.wp P a w next Q := fun hl => by
   obtain ⟨w', hr⟩ := ZyG S ρ w0 hst hL hl
   unfold Oper.wp
   rcases hr with ⟨v, hrun, ρ', sv, st', hn, hsv, hk⟩ | ⟨hrun, ρ', sv, st', hn, hsv, hk⟩
   ·rw [hrun]; exact hK ρ' sv st' w' v hn hsv hk
   ·rw [hrun]; exact hK ρ' sv st' w' undef hn hsv hk
  split at h
  ·rename_i c hop
   split at h
   ·rename_i f hcal
    split at h
    ·rename_i g hg
     split at h
     ·rename_i f' caps hcaps
      have hgd := R_one S ρ (hg ▸ hL f)
      rw [ZqS S hcaps] at hgd
      have hargs := ZeS S (Zg9 S hL c.args.toList) (ZhJ S (ρ := ρ) caps)
      have hcf := Zmb S w0 F hb hC (R := fun e w'' => match e with | .returned v => next (a.put o.dst v) w'' | .panicked chain => Q (.panic chain) a w'' | .outgrown => LetsOut Q) hst hargs h
       (fun ρ' sv st' w' v hn hsv hk => hK ρ' sv st' w' v hn hsv hk)
      have hrun : (execOp a.eval o).run P w = (callFunc f' (c.args.toList.map a.eval ++ caps.map (SC.den S ρ)).toArray).run P w := by
       unfold execOp
       rw [hop]
       have harr : (c.args.map a.eval ++ (caps.map (SC.den S ρ)).toArray) = (c.args.toList.map a.eval ++ caps.map (SC.den S ρ)).toArray := by apply Array.ext'; simp
       rw [<- harr]
       simp [resolve, hcal, hgd, Deferred.ofValue, invoke]
      unfold Oper.wp
      rcases hcf with ⟨h1, h2⟩ | ⟨v, w', h1, h2⟩
      ·rw [hrun, h1, Oper.upon_enter]
       exact h2.mono (fun e w' hh => by cases e <;> exact hh)
      ·rw [hrun, h1]
       exact h2
     ·exact h.elim
    ·exact h.elim
   ·exact lopcase h
  ·exact lopcase h
 ·rw [hq] at h
  simp only [cond_true] at h
  split at h
  ·rename_i ns v hv
   obtain ⟨hn, hk⟩ := ZA S ρ h
   obtain ⟨x, hrun, hx⟩ := ZaO S ρ w0 hst.asm hst.hp hL hv hn
   unfold Oper.wp
   rw [hrun]
   exact hK ρ v (st.add ns) w x (Zma S w0 F hst hn) hx hk
  ·exact h.elim
/-! ### Guards -/
theorem Yp {ρ : Env G} {fr : List SV} {a : Act} (h : FrR S ρ fr a.tmps.toList) (ops : Array Oper) (o : Oper) :
  match Zz ops fr o with
  | .go => Region.wanted o (yielded ops a.tmps) = true
  | .skip => Region.wanted o (yielded ops a.tmps) = false
  | .ask d e want => (Zdj fr d = .one (.bool e)) /\ ((e.den S ρ).toBool = want -> Region.wanted o (yielded ops a.tmps) = true) /\ ((e.den S ρ).toBool ≠ want -> Region.wanted o (yielded ops a.tmps) = false)
  | .bad => True := by
 unfold Zz
 cases hg : o.guard with
 | none => simp [Region.wanted, hg]
 | some jw =>
  obtain ⟨j, want⟩ := jw
  simp only
  cases hd : (ops[j]?).bind (·.dst) with
  | none => simp
  | some d =>
   simp only
   have hr := ZpV S h d
   have key : ∀ e, Zdj fr d = .one (.bool e) -> yielded ops a.tmps j = some (e.den S ρ).toBool := fun e he => by
    rw [he] at hr
    have := R_one S ρ hr
    have hlt : a.tmps[d]? = some (.bool (e.den S ρ).toBool) := by
     rw [ZJn] at this
     cases hx : a.tmps.toList[d]? with
     | none => rw [hx] at this; simp [undef, SC.den] at this
     | some v => rw [hx] at this; simp only [Option.getD_some] at this; rw [<- ZJc, hx, this]; rfl
    unfold yielded
    rw [hd]
    simp only [Option.bind_some, hlt]
   cases hgs : Zdj fr d with
   | one c =>
    cases c with
    | bool e =>
     have hy := key e hgs
     have ask : (Zdj fr d = .one (.bool e)) /\ ((e.den S ρ).toBool = want -> Region.wanted o (yielded ops a.tmps) = true) /\ ((e.den S ρ).toBool ≠ want -> Region.wanted o (yielded ops a.tmps) = false) :=
      ⟨hgs, fun hw => by simp [Region.wanted, hg, hy, hw], fun hw => by simp [Region.wanted, hg, hy, hw]⟩
     cases e with
     | bool b =>
      simp only
      cases hbq : bbq b want
      ·simp only [cond_false]
       refine ask.2.2 ?_
       simp only [SX.den, U.tQi]
       rintro rfl; cases b <;> simp [bbq] at hbq
      ·simp only [cond_true]
       exact ask.2.1 (ZfO hbq)
     | _ => simp only; exact ask
    | _ => trivial
   | tup vs =>
    cases vs with
    | cons _ _ => trivial
    | nil =>
     rw [hgs] at hr
     have this : a.tmps.toList.getD d undef = undef := by
      rcases hr with h | h
      ·cases h
      ·exact h
     have hy : yielded ops a.tmps j = none := by
      unfold yielded
      rw [hd]
      simp only [Option.bind_some]
      rw [ZJn, ZJc] at this
      cases hx : a.tmps[d]? with
      | none => rfl
      | some v => rw [hx] at this; simp only [Option.getD_some] at this; rw [this]; rfl
     simp [Region.wanted, hg, hy]
   | _ => trivial
theorem ZaY {ρ : Env G} {e : SX} (h : sq e.srt .bool = true) : e.den S ρ = .bool (e.den S ρ).toBool := by
 have := SX.srt_co S ρ e
 rw [Zzo h] at this
 exact this.symm
theorem Zoo {asm : List SX} {ρ : Env G} (ha : ∀ x ∈ asm, (x.den S ρ).tP) {e : SX} (h : ZFJ e asm = true) (he : (e.den S ρ).tP) (hx : ∃ x, e.den S ρ = .bool x) : False := by
 unfold ZFJ at h
 cases hi : ZaP (Zef e) asm
 ·rw [hi] at h
  simp only [cond_false] at h
  unfold ZH6 at h
  split at h
  ·rename_i x c
   obtain ⟨q, hq, h⟩ := List.any_eq_true.1 h
   split at h
   ·rename_i y d
    cases hb : SX.bq x y
    ·rw [hb] at h; cases h
    ·rw [hb] at h
     simp only [cond_true, ZJm] at h
     have h1 := ha _ hq
     have he' : (x.den S ρ).tI = c := by simpa [SX.den, ap2] using he
     have h1' : (y.den S ρ).tI = d := by simpa [SX.den, ap2] using h1
     rw [SX.bq_eq hb, h1'] at he'
     subst he'
     rw [Zfv] at h; cases h
   ·cases h
  ·cases h
 ·have := ha _ (Zbi hi)
  rw [ZaU] at this
  obtain ⟨x, hx⟩ := hx
  rw [hx] at this he
  simp at this he
  rw [this] at he; cases he
theorem YN {st : St} {ρ : Env G} {w : World} {a : Act} {d : Nat} {e : SX} {b : Bool} {k : St -> VC} (hd : Den S ρ w0 F st a w) (hs : Zdj st.fr d = .one (.bool e)) (hb : (e.den S ρ).toBool = b)
  (h : (Ze5 st d e b k).den S ρ) : ∃ st', Den S ρ w0 F st' a w /\ st'.n = st.n /\ (k st').den S ρ := by
 unfold Ze5 at h
 simp only at h
 cases hq : sq e.srt .bool
 ·rw [hq] at h; exact h.elim
 rw [hq] at h
 simp only [cond_true] at h
 obtain ⟨x, hx⟩ : ∃ x, e.den S ρ = .bool x := ⟨_, ZaY S hq⟩
 have hx' : x = b := by rw [hx] at hb; exact hb
 subst hx'
 have e1 : ((bif x then e else Zef e).den S ρ).tP := by
  cases x
  ·rw [cond_false, ZaU, hx]; rfl
  ·rw [cond_true, hx]; rfl
 have e2 : ¬ ((bif x then Zef e else e).den S ρ).tP := by
  cases x
  ·rw [cond_false, hx]; simp
  ·rw [cond_true, ZaU, hx]; simp
 cases hin : (bif x then ZFJ e st.asm else ZaP e st.asm)
 ·rw [hin] at h
  simp only [cond_false] at h
  refine ⟨{ st with fr := ZrI st.fr d (.one (.bool (.bool x))), asm := (bif x then e else Zef e) :: st.asm }, ⟨?_, hd.df, hd.hp, ?_⟩, rfl, h e1⟩
  ·have hr := ZpV S hd.fr d
   rw [hs] at hr
   have hv := R_one S ρ hr
   by_cases hlt : d < a.tmps.toList.length
   ·have YZ : a.tmps.toList = a.tmps.toList.set d (.bool x) := by
     rw [ZJn, ZJq hlt] at hv
     simp only [Option.getD_some, SC.den, hx, U.tQi] at hv
     rw [<- hv, List.set_getElem_self]
    have := Znz S d (sv := .one (.bool (.bool x))) (v := .bool x) hd.fr (.inr rfl)
    rw [<- YZ] at this; exact this
   ·exfalso
    rw [ZJn, List.getElem?_eq_none (by omega)] at hv
    simp [undef, SC.den] at hv
  ·intro y hy
   rcases List.mem_cons.1 hy with rfl | hy
   ·exact e1
   ·exact hd.asm y hy
 ·cases x
  ·exact absurd (hd.asm _ (Zbi hin)) e2
  ·exact (Zoo S hd.asm hin e1 ⟨_, hx⟩).elim
theorem Zjo {st st' : St} {ρ ρ' : Env G} {w w' : World} {a : Act} {dst : Option Tmp} {sv : SV} {v : Value} (hd : Den S ρ w0 F st a w) (hn : Next' S w0 F st ρ ρ' st' w') (hv : sv.R S ρ' v) :
  Den S ρ' w0 F { st' with fr := Zac st'.fr dst sv } (a.put dst v) w' :=
 ⟨Zxl S (by rw [hn.fr]; exact hn.frR _ hd.fr) hv, by rw [put_defers]; exact hd.df, hn.hs.hp, hn.hs.asm⟩
theorem Zqg {st : St} {ρ : Env G} {w : World} {a : Act} {dst : Option Tmp} (hd : Den S ρ w0 F st a w) : Den S ρ w0 F { st with fr := Zac st.fr dst (.tup []) } (a.put dst undef) w :=
 ⟨Zxl S hd.fr (.inr rfl), by rw [put_defers]; exact hd.df, hd.hp, hd.asm⟩
theorem Zjk {st : St} {ρ : Env G} {w : World} {a : Act} (hd : Den S ρ w0 F st a w) : HSt S w0 F st ρ w := ⟨hd.hp, hd.asm⟩
def YU (st : St) (ρ : Env G) (ρ' : Env G) (st' : St) (a' : Act) (w' : World) : Prop := Ext st.n ρ ρ' /\ st.n <= st'.n /\ Den S ρ' w0 F st' a' w'
theorem YU.step {st st1 st' : St} {ρ ρ1 ρ' : Env G} {a' : Act} {w' : World} (h : Ext st.n ρ ρ1) (hn : st.n <= st1.n) (k : YU S w0 F st1 ρ1 ρ' st' a' w') : YU S w0 F st ρ ρ' st' a' w' :=
 ⟨h.trans k.1 hn, Nat.le_trans hn k.2.1, k.2.2⟩
theorem Zeh {body : Nat -> List SV -> St -> (SV -> St -> VC) -> VC} (hb : Zcc S w0 F P body) (hC : ZrL S P C) {ops : Array Oper} {K : St -> VC} {Q : Exit -> Act -> World -> Prop} :
  ∀ (l : List Oper) (st : St) (ρ : Env G) (a : Act) (w : World), Den S ρ w0 F st a w -> (ZD3 P C body ops l st K).den S ρ →
   (∀ ρ' st' a' w', YU S w0 F st ρ ρ' st' a' w' -> (K st').den S ρ' -> Q .normal a' w') -> wpList P ops Q l a w
 | [], st, ρ, a, w, hd, h, hK => wpList_nil (hK ρ st a w ⟨Ext.refl _ _, ZJd _, hd⟩ h)
 | o :: rest, st, ρ, a, w, hd, h, hK => by
  simp only [ZD3] at h
  have hg := Yp S hd.fr ops o
  have go : ∀ st1, Den S ρ w0 F st1 a w -> st1.n = st.n -> Region.wanted o (yielded ops a.tmps) = true →
    (ZHa P C body st1 o fun v st => ZD3 P C body ops rest { st with fr := Zac st.fr o.dst v } K).den S ρ -> wpList P ops Q (o :: rest) a w := by
   intro st1 hd1 hn1 hw h1
   refine wpList_step fun K' hK' => ?_
   rw [if_pos hw]
   refine Zib S w0 F hb hC (Zjk S w0 F hd1) (fun x => Zgd S hd1.fr x) h1 ?_
   intro ρ' sv st' w' v hn hsv hk
   refine hK' _ _ (Zeh hb hC rest _ ρ' _ w' (Zjo S w0 F hd1 hn hsv) hk ?_)
   intro ρ2 st2 a2 w2 haf hk2
   exact hK _ _ _ _ (YU.step S w0 F (st1 := st') (by rw [<- hn1]; exact hn.ext) (by rw [<- hn1]; exact hn.le) haf) hk2
  have skip : ∀ st1, Den S ρ w0 F st1 a w -> st1.n = st.n -> Region.wanted o (yielded ops a.tmps) = false →
    (ZD3 P C body ops rest { st1 with fr := Zac st1.fr o.dst (.tup []) } K).den S ρ -> wpList P ops Q (o :: rest) a w := by
   intro st1 hd1 hn1 hw h1
   refine wpList_step fun K' hK' => ?_
   rw [if_neg (by rw [hw]; simp)]
   refine hK' _ _ (Zeh hb hC rest _ ρ _ w (Zqg S w0 F hd1) h1 ?_)
   intro ρ2 st2 a2 w2 haf hk2
   exact hK _ _ _ _ (YU.step S w0 F (st1 := { st1 with fr := Zac st1.fr o.dst (.tup []) }) (Ext.refl _ _) (Nat.le_of_eq hn1.symm) haf) hk2
  split at h
  ·rename_i he; rw [he] at hg; exact go st hd rfl hg h
  ·rename_i he; rw [he] at hg; exact skip st hd rfl hg h
  ·rename_i d e want he
   rw [he] at hg
   obtain ⟨hs, hy, hno⟩ := hg
   obtain ⟨ht, hf⟩ := h
   by_cases hw : (e.den S ρ).toBool = want
   ·obtain ⟨st1, hd1, hn1, h1⟩ := YN S w0 F hd hs hw ht
    exact go st1 hd1 hn1 (hy hw) h1
   ·have hw' : (e.den S ρ).toBool = !want := by cases hx : (e.den S ρ).toBool <;> cases want <;> simp_all
    obtain ⟨st1, hd1, hn1, h1⟩ := YN S w0 F hd hs hw' hf
    exact skip st1 hd1 hn1 (hno hw) h1
  ·exact h.elim
/-! ### A region that draws its order -/
def Yi (P : Program) (ops : Array Oper) (Q : Exit -> Act -> World -> Prop) (T : Array Bool -> World -> Prop) : Nat -> Array Bool -> Act -> World -> Prop
 | 0, listed, a, w => Region.ready .any ops listed = [] /\ Q .normal a w
 | fuel + 1, listed, a, w =>
  (Region.ready .any ops listed = [] -> Q .normal a w) ∧
  ∀ i ∈ Region.ready .any ops listed, wpOp P ops Q i (fun a' w' => T (listed.setIfInBounds i true) w' /\ Yi P ops Q T fuel (listed.setIfInBounds i true) a' w') a w
theorem Zbf {ops : Array Oper} {Q : Exit -> Act -> World -> Prop} {T : Array Bool -> World -> Prop} : ∀ (fuel : Nat) (listed : Array Bool) (a : Act) (w : World), Yi P ops Q T fuel listed a w -> wpAny P .any ops Q fuel listed a w
 | 0, _, _, _, h => h
 | fuel + 1, _, _, _, h => ⟨h.1, fun i hi => wpOp_mono (fun a' w' h' => Zbf fuel _ a' w' h'.2) (h.2 i hi)⟩
theorem ZaG {ops : Array Oper} {Q : Exit -> Act -> World -> Prop} {T T' : Array Bool -> World -> Prop} (hT : ∀ l w, T l w -> T' l w) : ∀ (fuel : Nat) (listed : Array Bool) (a : Act) (w : World), Yi P ops Q T fuel listed a w -> Yi P ops Q T' fuel listed a w
 | 0, _, _, _, h => h
 | fuel + 1, _, _, _, h => ⟨h.1, fun i hi => wpOp_mono (fun a' w' h' => ⟨hT _ _ h'.1, ZaG hT fuel _ a' w' h'.2⟩) (h.2 i hi)⟩
def ZaT (ops : Array Oper) (listed : Array Bool) : Prop := ∀ j o, ops[j]? = some o -> listed.getD j true = true -> ∀ e ∈ o.after, Region.binds .any e = true -> listed.getD e.on false = true
def ZB (P : Program) (ops : Array Oper) (T : Array Bool -> World -> Prop) (i : Nat) (o : Oper) (v : Value) (a : Act) : Prop :=
 (Region.wanted o (yielded ops a.tmps) = true /\ ∀ l w, ZaT ops l -> l.getD i true = false -> T l w -> (execOp a.eval o).run P w = .ok (.value v) w) ∨
 (Region.wanted o (yielded ops a.tmps) = false /\ v = undef)
theorem ZB.wpOp {ops : Array Oper} {Q : Exit -> Act -> World -> Prop} {T : Array Bool -> World -> Prop} {i : Nat} {o : Oper} {v : Value} {a : Act} (hi : ops[i]? = some o) (hy : ZB P ops T i o v a)
  {l : Array Bool} {K : Act -> World -> Prop} {w : World} (hc : ZaT ops l) (hl : l.getD i true = false) (hT : T l w) (h : K (a.put o.dst v) w) : wpOp P ops Q i K a w := by
 unfold Go.wpOp
 simp only [hi]
 rcases hy with ⟨hw, hv⟩ | ⟨hw, rfl⟩
 ·simp only [hw, if_true, Oper.wp, hv l w hc hl hT, Oper.upon]; exact .inl h
 ·simp only [hw, Bool.false_eq_true, if_false]; exact h
theorem ZB.of_same {ops : Array Oper} {T : Array Bool -> World -> Prop} {i : Nat} {o : Oper} {v : Value} {a a' : Act} (hy : ZB P ops T i o v a) (he : execOp a'.eval o = execOp a.eval o)
  (hw : Region.wanted o (yielded ops a'.tmps) = Region.wanted o (yielded ops a.tmps)) : ZB P ops T i o v a' := by
 unfold ZB at *
 rw [he, hw]
 exact hy
theorem ZfK {ops : Array Oper} {Q : Exit -> Act -> World -> Prop} {T : Array Bool -> World -> Prop} {i j : Nat} {oi oj : Oper} {v : Value} (hj : ops[j]? = some oj) (hap : oi.apart ops oj = true)
  (hsi : ∀ cs b, oi.op ≠ .select cs b) (hsj : ∀ cs b, oj.op ≠ .select cs b)
  (hQ : ∀ c a w, Q (.panic c) (a.put oi.dst v) w -> Q (.panic c) a w) {K : Act -> World -> Prop} {a : Act} {w : World}
  (hy : ZB P ops T i oi v a) (h : wpOp P ops Q j K (a.put oi.dst v) w) :
  wpOp P ops Q j (fun a' w' => ZB P ops T i oi v a' /\ K (a'.put oi.dst v) w') a w := by
 obtain ⟨h1, h2, h3⟩ := Oper.apart_spec hap
 have keep : ∀ (a : Act), ZB P ops T i oi v a -> ∀ u, ZB P ops T i oi v (a.put oj.dst u) := fun a hy u =>
  hy.of_same (execOp_put oi hsi a oj.dst u h3) (wanted_put oi a oj.dst u h3)
 have keepD : ∀ d, ZB P ops T i oi v { a with defers := d :: a.defers } := fun d => hy.of_same rfl rfl
 unfold wpOp at *
 simp only [hj] at *
 rw [wanted_put oj a oi.dst v h1] at h
 split
 ·rename_i hw
  simp only [hw, if_true] at h
  rcases h with h | ⟨hasks, hlets⟩
  case inr => exact .inr ⟨by unfold Oper.asks at *; rw [execOp_put oj hsj a oi.dst v h1] at hasks; exact hasks, hlets⟩
  refine .inl ?_
  unfold Oper.wp at *
  rw [execOp_put oj hsj a oi.dst v h1] at h
  generalize (execOp a.eval oj).run P w = r at *
  cases r with
  | ok n w' =>
   cases n <;> simp only [Oper.upon] at h ⊢
   case value u => exact ⟨keep a hy u, by rw [<- Act.put_comm a v u h2]; exact h⟩
   case skip => exact ⟨keep a hy _, by rw [<- Act.put_comm a v undef h2]; exact h⟩
   case defer d =>
    refine ⟨keep _ (keepD d) _, ?_⟩
    rw [<- Act.put_comm _ v undef h2, <- Act.put_defers]
    exact h
   case enter f args =>
    refine Calls.mono h fun e w'' he => ?_
    cases e with
    | returned u => exact ⟨keep a hy u, by rw [<- Act.put_comm a v u h2]; exact he⟩
    | panicked c => exact hQ _ _ _ he
    | outgrown => exact he
   case row row args => exact Rows.mono h fun u w'' he => ⟨keep a hy u, by rw [<- Act.put_comm a v u h2]; exact he⟩
  | halt x w' =>
   cases x <;> simp only [Oper.upon] at h ⊢
   case panic u => exact hQ _ _ _ h
 ·rename_i hw
  simp only [hw] at h
  exact ⟨keep a hy _, by rw [<- Act.put_comm a v undef h2]; exact h⟩
theorem ZaT.set {ops : Array Oper} {l : Array Bool} {i : Nat} (h : ZaT ops l) (hi : i ∈ Region.ready .any ops l) : ZaT ops (l.setIfInBounds i true) := by
 intro j o hj hl e he hb
 by_cases hji : j = i
 ·subst hji
  obtain ⟨_, o', ho', hall⟩ := mem_ready.1 hi
  rw [hj] at ho'; cases ho'
  exact getD_set_true (hall e he hb)
 ·rw [getD_set_ne true (Ne.symm hji)] at hl
  exact getD_set_true (h j o hj hl e he hb)
theorem Zca {ops : Array Oper} {Q : Exit -> Act -> World -> Prop} {T : Array Bool -> World -> Prop} {i : Nat} {oi : Oper} {v : Value} (hi : ops[i]? = some oi) (hsel : ∀ (j : Nat) (o : Oper) cs b, ops[j]? = some o -> o.op ≠ .select cs b)
  (hQ : ∀ c a w, Q (.panic c) (a.put oi.dst v) w -> Q (.panic c) a w) (hTi : ∀ l w, T (l.setIfInBounds i true) w -> T l w) :
  ∀ (fuel : Nat) (listed : Array Bool) (a : Act) (w : World), ZaT ops listed →
   (∀ j oj, ops[j]? = some oj -> j ≠ i -> listed.getD j true = false -> (∀ e ∈ oj.after, Region.binds .any e = true -> e.on ≠ i) -> oi.apart ops oj = true) →
   i ∈ Region.ready .any ops listed -> ZB P ops T i oi v a -> T listed w -> T (listed.setIfInBounds i true) w →
   Yi P ops Q T fuel (listed.setIfInBounds i true) (a.put oi.dst v) w -> Yi P ops Q T (fuel + 1) listed a w := by
 intro fuel
 induction fuel with
 | zero =>
  intro listed a w hc _ hr hy hT hT' H
  refine ⟨fun h => (by rw [h] at hr; cases hr), fun j hj => ?_⟩
  by_cases hji : j = i
  ·subst hji; exact hy.wpOp hi hc (mem_ready.1 hr).1 hT ⟨hT', H⟩
  ·have := ready_mono hj hji
   rw [H.1] at this
   cases this
 | succ fuel ih =>
  intro listed a w hc hfree hr hy hT hT' H
  refine ⟨fun h => (by rw [h] at hr; cases hr), fun j hj => ?_⟩
  by_cases hji : j = i
  ·subst hji; exact hy.wpOp hi hc (mem_ready.1 hr).1 hT ⟨hT', H⟩
  ·have h1 := H.2 j (ready_mono hj hji)
   obtain ⟨hjun, oj, hoj, hall⟩ := mem_ready.1 hj
   have hnot : ∀ e ∈ oj.after, Region.binds .any e = true -> e.on ≠ i := fun e he hb heq => by
    have h1 := hall e he hb
    have h0 := (mem_ready.1 hr).1
    rw [heq] at h1
    rcases ZJh i listed.size with h' | h'
    ·simp [h'] at h0 h1; rw [h0] at h1; cases h1
    ·simp [Array.getElem?_eq_none h'] at h1
   have h2 := ZfK hoj (hfree j oj hoj hji hjun hnot) (fun cs b => hsel i oi cs b hi) (fun cs b => hsel j oj cs b hoj) hQ hy h1
   have hfree' : ∀ k ok, ops[k]? = some ok -> k ≠ i -> (listed.setIfInBounds j true).getD k true = false →
     (∀ e ∈ ok.after, Region.binds .any e = true -> e.on ≠ i) -> oi.apart ops ok = true := fun k ok hk hki hun hno => by
    refine hfree k ok hk hki ?_ hno
    by_cases hjk : j = k
    ·subst hjk; exact hjun
    ·rw [getD_set_ne true hjk] at hun; exact hun
   refine wpOp_mono (fun a' w' h3 => ?_) h2
   obtain ⟨hy', hT3, H3⟩ := h3
   rw [Array.setIfInBounds_comm _ _ (Ne.symm hji)] at hT3 H3
   have hT4 := hTi _ _ hT3
   exact ⟨hT4, ih (listed.setIfInBounds j true) a' w' (hc.set hj) hfree' (ready_mono hr (Ne.symm hji)) hy' hT4 hT3 H3⟩
end
end
end Go.Eng
namespace Go.Eng
noncomputable section
open Go.RowKit (Below)
section
variable {G : Type} (S : Sig G) (w0 : World) (F : Zd) {P : Program} {C : Cx}
structure Say where
 i : Nat
 o : Oper
 ev : Operand -> Value
 v : Value
def Zaj (ops : Array Oper) (X : Nat -> Prop) (l : Array Bool) (s : Say) : Prop :=
 ∀ j o, ops[j]? = some o -> ¬ X j -> l.getD j true = true -> ZdM o s.i = false
def TR (P : Program) (ops : Array Oper) (X : Nat -> Prop) (R : List Say) (l : Array Bool) (w : World) : Prop :=
 ∀ s ∈ R, Zaj ops X l s -> (execOp s.ev s.o).run P w = .ok (.value s.v) w
def Zk5 (ρ : Env G) (r : Rec) (s : Say) : Prop := r.i = s.i /\ r.o = s.o /\ (∀ x, (lkA r.L x).R S ρ (s.ev x)) /\ r.v.R S ρ s.v
def Rels (ops : Array Oper) (X : Nat -> Prop) (ρ : Env G) (listed : Array Bool) (recs : List Rec) (R : List Say) : Prop :=
 ∀ s ∈ R, Zaj ops X listed s -> ∃ r ∈ recs, Zk5 S ρ r s
theorem Zzp {ρ : Env G} {a b : SV} (h : SV.same a b = true) : a.isJunk = false /\ b.isJunk = false /\ a.den S ρ = b.den S ρ := by
 cases a with
 | junk => cases b <;> cases h
 | one c => have := SV.bq_eq (a := .one c) h; subst this; exact ⟨rfl, rfl, rfl⟩
 | agg c => have := SV.bq_eq (a := .agg c) h; subst this; exact ⟨rfl, rfl, rfl⟩
 | tup x =>
  cases b with
  | tup y =>
   simp only [SV.same] at h
   split at h
   ·rename_i heq
    exact ⟨rfl, rfl, (ZhL S ρ (asm := []) (by simp) heq (by simp)).1⟩
   ·cases h
  | junk => cases h
  | one c => cases h
  | agg c => cases h
theorem Zab {α : Type} : ∀ {l : List (Nat × α)} {i : Nat} {x : α}, ZS l i = some x -> (i, x) ∈ l
 | [], _, _, h => by cases h
 | (j, y) :: l, i, x, h => by
  simp only [ZS] at h
  cases hq : Nat.beq j i
  ·first
    | (rw [hq] at h; exact ZJt _ (Zab h))
    | (rw [show Nat.beq i j = false by cases h' : Nat.beq i j; rfl; rw [ZJo h'] at hq; simp at hq] at h; exact ZJt _ (Zab h))
  ·have := ZJo hq
   subst this
   rw [hq] at h; cases h; exact ZJv
theorem ZB6 {n : Nat} {ρ ρ' : Env G} (h : Ext n ρ ρ') {L : List (Nat × SV)} (hl : L.all (fun p => p.2.lt n) = true) {x : Operand} {v : Value} (hv : (lkA L x).R S ρ v) : (lkA L x).R S ρ' v := by
 cases x with
 | tmp t =>
  simp only [lkA] at *
  split at hv
  ·rename_i sv hs
   have hm : (t, sv) ∈ L := Zab hs
   have := List.all_eq_true.1 hl _ hm
   rcases hv with hv | hv
   ·exact .inl hv
   ·exact .inr (by rw [SV.den_ext S h this]; exact hv)
  ·exact .inl rfl
 | const c =>
  have h1 := ZmW S ρ c
  have h2 := ZmW S ρ' c
  rcases hv with hv | hv
  ·exact .inl hv
  ·rcases h1 with h1 | h1
   ·exact .inl h1
   ·have : v = c := by rw [h1]; exact hv
    subst this; exact h2
 | global g => exact hv.imp id fun h' => h'
 | func f => exact hv.imp id fun h' => h'
theorem ZI9 {ρ : Env G} {fr : List SV} {a : Act} (h : FrR S ρ fr a.tmps.toList) (o : Op) (x : Operand) : (lkA (ZFH fr o) x).R S ρ (a.eval x) := by
 have hx := Zgd S h x
 cases x with
 | tmp t =>
  simp only [lkA]
  split
  ·rename_i sv hs
   have hm := Zab hs
   unfold ZFH at hm
   obtain ⟨y, _, hy⟩ := List.mem_filterMap.1 hm
   cases y <;> simp at hy
   obtain ⟨rfl, rfl⟩ := hy
   exact hx
  ·exact .inl rfl
 | const c => exact hx
 | global g => exact hx
 | func f => exact hx
theorem Yl {fr : List SV} {ops : Array Oper} : ∀ {l : List Nat} {i : Nat} {o : Oper}, ZR P fr ops l = some (i, o) -> i ∈ l /\ ops[i]? = some o
 | [], _, _, h => nomatch h
 | j :: l, i, o, h => by
  simp only [ZR] at h
  split at h
  ·rename_i o' ho
   cases hq : ZeB P fr ops o'
   ·rw [hq] at h; have := Yl h; exact ⟨ZJt _ this.1, this.2⟩
   ·rw [hq] at h; cases h; exact ⟨ZJv, ho⟩
  ·cases h
def left (listed : Array Bool) : Nat := listed.toList.countP (· == false)
theorem Zap {l : Array Bool} {i : Nat} (h : l.getD i true = false) : left (l.setIfInBounds i true) + 1 = left l := by
 unfold left
 rw [Array.toList_setIfInBounds]
 rw [Array.getD_eq_getD_getElem?, <- ZJc] at h
 revert h
 generalize l.toList = m
 intro h
 induction m generalizing i with
 | nil => simp at h
 | cons b m ih =>
  cases i with
  | zero => simp at h; subst h; simp
  | succ i =>
   have := ih (i := i) (by simpa using h)
   simp only [List.set_cons_succ, List.countP_cons]
   omega
theorem ZfQ {l : Array Bool} {i : Nat} (h : l.getD i true = false) : i < l.size := by
 rcases ZJh i l.size with h' | h'
 ·exact h'
 ·simp [Array.getElem?_eq_none h'] at h
theorem Zx {l : Array Bool} {i : Nat} (h : l.getD i true = false) (d : Bool) : (l.setIfInBounds i true).getD i d = true := by
 simp [ZfQ h]
theorem Zbx {ops : Array Oper} {Q : Exit -> Act -> World -> Prop} {T : Array Bool -> World -> Prop} {listed : Array Bool} {a : Act} {w : World} (hr : Region.ready .any ops listed = []) (h : Q .normal a w) : ∀ k, Yi P ops Q T k listed a w
 | 0 => ⟨hr, h⟩
 | k + 1 => ⟨fun _ => h, by rw [hr]; simp⟩
theorem ZeC {ops : Array Oper} {X : Nat -> Prop} {l : Array Bool} {i : Nat} {s : Say} (hl : l.getD i true = false) (h : Zaj ops X (l.setIfInBounds i true) s) : Zaj ops X l s := by
 intro j o hj hx hlj
 refine h j o hj hx ?_
 by_cases hij : i = j
 ·subst hij; exact Zx hl _
 ·rw [getD_set_ne true hij]; exact hlj
theorem Zbh {ops : Array Oper} {X : Nat -> Prop} {l : Array Bool} {i : Nat} {s : Say} (hl : l.getD i true = false) (h : Zaj ops (fun j => X j \/ j = i) l s) : Zaj ops X l s := by
 intro j o hj hx hlj
 refine h j o hj (fun h' => ?_) hlj
 rcases h' with h' | rfl
 ·exact hx h'
 ·rw [hl] at hlj; cases hlj
theorem Yu {ops : Array Oper} {X : Nat -> Prop} {l : Array Bool} {i : Nat} {s : Say} (h : Zaj ops (fun j => X j \/ j = i) (l.setIfInBounds i true) s) : Zaj ops (fun j => X j \/ j = i) l s := by
 intro j o hj hx hlj
 have hij : i ≠ j := fun h' => hx (.inr h'.symm)
 exact h j o hj hx (by rw [getD_set_ne true hij]; exact hlj)
theorem valid_setX' {ops : Array Oper} {X : Nat -> Prop} {l : Array Bool} {i : Nat} {s : Say} (h : Zaj ops (fun j => X j \/ j = i) l s) : Zaj ops (fun j => X j \/ j = i) (l.setIfInBounds i true) s := by
 intro j o hj hx hlj
 have hij : i ≠ j := fun h' => hx (.inr h'.symm)
 exact h j o hj hx (by rw [getD_set_ne true hij] at hlj; exact hlj)
theorem ZnV {ρ : Env G} : ∀ {l : List VC}, (VC.conj l).den S ρ -> ∀ v ∈ l, v.den S ρ
 | [], _, v, hv => nomatch hv
 | [a], h, v, hv => by rw [ZJg] at hv; subst hv; exact h
 | a :: b :: l, h, v, hv => by
  obtain ⟨h1, h2⟩ := h
  rcases List.mem_cons.1 hv with rfl | hv
  ·exact h1
  ·exact ZnV (l := b :: l) h2 v hv
theorem ZdH {ρ : Env G} {fr : List SV} {a : Act} (hfr : FrR S ρ fr a.tmps.toList) {ops : Array Oper} {d : Nat} {e : SX} {want : Bool} : ∀ {l : List Nat}, ZfD fr ops l = some (d, e, want) -> Zdj fr d = .one (.bool e) /\ True
 | [], h => nomatch h
 | i :: l, h => by
  simp only [ZfD] at h
  split at h
  ·rename_i o ho
   have hg := Yp S hfr ops o
   split at h
   ·rename_i d' e' want' he
    rw [he] at hg
    cases h
    exact ⟨hg.1, trivial⟩
   ·exact ZdH hfr h
  ·cases h
theorem Zc6 {body : Nat -> List SV -> St -> (SV -> St -> VC) -> VC} (hb : Zcc S w0 F P body) (hC : ZrL S P C) {ops : Array Oper} {K : St -> VC} {Q : Exit -> Act -> World -> Prop} (hns : Region.noSelect ops = true) (hQp : ∀ c a w, ¬ Q (.panic c) a w) :
  ∀ (fuel : Nat) (listed : Array Bool) (recs : List Rec) (st : St) (X : Nat -> Prop) (R : List Say) (k : Nat) (ρ : Env G) (a : Act) (w : World), Den S ρ w0 F st a w -> ZaT ops listed -> (∀ j, X j -> listed.getD j true = true) →
   Rels S ops X ρ listed recs R -> TR P ops X R listed w -> left listed <= k -> (Y3 P C body ops fuel listed recs st K).den S ρ →
   (∀ ρ' st' a' w', YU S w0 F st ρ ρ' st' a' w' -> (K st').den S ρ' -> Q .normal a' w') -> Yi P ops Q (TR P ops X R) k listed a w := by
 intro fuel
 induction fuel with
 | zero =>
  intro listed recs st X R k ρ a w hd hc hX hrel hT hk h hK
  simp only [Y3] at h
  split at h
  ·rename_i hr; exact Zbx hr (hK ρ st a w ⟨Ext.refl _ _, ZJd _, hd⟩ h) k
  ·exact h.elim
 | succ fuel ih =>
  intro listed recs st X R k ρ a w hd hc hX hrel hT hk h hK
  have done : ∀ st1, Den S ρ w0 F st1 a w -> st1.n = st.n -> (Y3 P C body ops fuel listed recs st1 K).den S ρ -> Yi P ops Q (TR P ops X R) k listed a w := fun st1 hd1 hn1 h1 =>
   ih listed recs st1 X R k ρ a w hd1 hc hX hrel hT hk h1 fun ρ' st' a' w' haf hk' => hK ρ' st' a' w' (YU.step S w0 F (st1 := st1) (Ext.refl _ _) (Nat.le_of_eq hn1.symm) haf) hk'
  simp only [Y3] at h
  split at h
  ·rename_i hr; exact Zbx hr (hK ρ st a w ⟨Ext.refl _ _, ZJd _, hd⟩ h) k
  ·rename_i i0 rest hready
   split at h
   ·-- a quiet one is taken first
    rename_i i o hfq
    obtain ⟨hmem, hi⟩ := Yl hfq
    have hir : i ∈ Region.ready .any ops listed := by rw [hready]; exact hmem
    have hil := (mem_ready.1 hir).1
    cases hfree : Region.free .any ops listed i
    ·rw [hfree] at h; exact h.elim
    rw [hfree] at h
    simp only [cond_true] at h
    obtain ⟨k', rfl⟩ : ∃ k', k = k' + 1 := ⟨k - 1, by have := Zap hil; omega⟩
    have hk' : left (listed.setIfInBounds i true) <= k' := by have := Zap hil; omega
    have hX' : ∀ j, (X j \/ j = i) -> (listed.setIfInBounds i true).getD j true = true := by
     rintro j (hj | rfl)
     ·by_cases hij : i = j
      ·subst hij; exact Zx hil _
      ·rw [getD_set_ne true hij]; exact hX j hj
     ·exact Zx hil _
    -- what the records of before say Y2 for the larger set, too
    have mono : ∀ R', (∀ s ∈ R, s ∈ R') -> ∀ l w, TR P ops (fun j => X j \/ j = i) R' l w -> TR P ops X R l w := fun R' hsub l w hT' s hs hv =>
     hT' s (hsub s hs) fun j o' hj hx hlj => hv j o' hj (fun h' => hx (.inl h')) hlj
    have core : ∀ (R' : List Say) (v : Value) , (∀ s ∈ R, s ∈ R') -> ZB P ops (TR P ops (fun j => X j \/ j = i) R') i o v a -> TR P ops (fun j => X j \/ j = i) R' listed w →
      Yi P ops Q (TR P ops (fun j => X j \/ j = i) R') k' (listed.setIfInBounds i true) (a.put o.dst v) w -> Yi P ops Q (TR P ops X R) (k' + 1) listed a w := by
     intro R' v hsub hy hTl hrest
     refine ZaG (mono R' hsub) _ _ _ _ ?_
     refine Zca hi (Region.noSelect_spec hns) (fun c a w h' => absurd h' (hQp c _ w)) ?_ k' listed a w hc (Region.free_spec hi hfree) hir hy hTl ?_ hrest
     ·intro l w hTl s hs hv; exact hTl s hs (valid_setX' hv)
     ·intro s hs hv; exact hTl s hs (Yu hv)
    have hT1 : TR P ops (fun j => X j \/ j = i) R listed w := fun s hs hv => hT s hs (Zbh hil hv)
    have hrel1 : ∀ s ∈ R, Zaj ops (fun j => X j \/ j = i) (listed.setIfInBounds i true) s -> ∃ r ∈ recs, Zk5 S ρ r s := fun s hs hv => hrel s hs (Zbh hil (Yu hv))
    have go : ∀ st1, Den S ρ w0 F st1 a w -> st1.n = st.n -> Region.wanted o (yielded ops a.tmps) = true →
      (match qev P st1.hp st1.asm (lkA (ZFH st1.fr o.op)) o.op with
       | some (ns, v) => VC.needs ns (Y3 P C body ops fuel (listed.setIfInBounds i true) (⟨i, o, ZFH st1.fr o.op, v⟩ :: recs) { (st1.add ns) with fr := Zac st1.fr o.dst v } K)
       | none => VC.ff 35).den S ρ -> Yi P ops Q (TR P ops X R) (k' + 1) listed a w := by
     intro st1 hd1 hn1 hw h1
     split at h1
     ·rename_i ns sv hv
      obtain ⟨hn, hk2⟩ := ZA S ρ h1
      have hL := fun x => ZI9 S hd1.fr o.op x
      obtain ⟨x, hrun, hx⟩ := ZaO S ρ w0 hd1.asm hd1.hp hL hv hn
      refine core (⟨i, o, a.eval, x⟩ :: R) x (fun s hs => ZJt _ hs) ?_ ?_ ?_
      ·refine .inl ⟨hw, fun l w hcl hli hTl => hTl ⟨i, o, a.eval, x⟩ ZJv ?_⟩
       intro j o' hj hx' hlj
       cases hwt : ZdM o' i
       ·rfl
       ·exfalso
        obtain ⟨e, he, hbe⟩ := Array.any_eq_true'.1 hwt
        simp only [Bool.and_eq_true, beq_iff_eq] at hbe
        have := hcl j o' hj hlj e he hbe.1
        rw [hbe.2] at this
        have hlt := ZfQ hli
        simp [hlt] at this hli
        rw [hli] at this; cases this
      ·intro s hs hv'
       rcases List.mem_cons.1 hs with rfl | hs
       ·exact hrun
       ·exact hT1 s hs hv'
      ·refine ih _ _ _ _ _ k' ρ _ w (Zjo S w0 F hd1 (Zma S w0 F (Zjk S w0 F hd1) hn) hx) (hc.set hir) hX' ?_ ?_ hk' hk2 ?_
       ·intro s hs hv'
        rcases List.mem_cons.1 hs with rfl | hs
        ·exact ⟨_, ZJv, rfl, rfl, hL, hx⟩
        ·obtain ⟨r, hr, hrd⟩ := hrel1 s hs hv'
         exact ⟨r, ZJt _ hr, hrd⟩
       ·intro s hs hv'
        rcases List.mem_cons.1 hs with rfl | hs
        ·exact hrun
        ·exact hT1 s hs (Yu hv')
       ·intro ρ' st' a' w' haf hk3
        exact hK _ _ _ _ (YU.step S w0 F (st1 := { (st1.add ns) with fr := Zac st1.fr o.dst sv }) (Ext.refl _ _) (Nat.le_of_eq hn1.symm) haf) hk3
     ·exact h1.elim
    have skip : ∀ st1, Den S ρ w0 F st1 a w -> st1.n = st.n -> Region.wanted o (yielded ops a.tmps) = false →
      (Y3 P C body ops fuel (listed.setIfInBounds i true) recs { st1 with fr := Zac st1.fr o.dst (.tup []) } K).den S ρ -> Yi P ops Q (TR P ops X R) (k' + 1) listed a w := by
     intro st1 hd1 hn1 hw h1
     refine core R undef (fun s hs => hs) (.inr ⟨hw, rfl⟩) hT1 ?_
     refine ih _ _ _ _ _ k' ρ _ w (Zqg S w0 F hd1) (hc.set hir) hX' hrel1 (fun s hs hv => hT1 s hs (Yu hv)) hk' h1 ?_
     intro ρ' st' a' w' haf hk3
     exact hK _ _ _ _ (YU.step S w0 F (st1 := { st1 with fr := Zac st1.fr o.dst (.tup []) }) (Ext.refl _ _) (Nat.le_of_eq hn1.symm) haf) hk3
    have hg := Yp S hd.fr ops o
    split at h
    ·rename_i he; rw [he] at hg; exact go st hd rfl hg h
    ·rename_i he; rw [he] at hg; exact skip st hd rfl hg h
    ·rename_i d e want he
     rw [he] at hg
     obtain ⟨hs, hy, hno⟩ := hg
     obtain ⟨ht, hf⟩ := h
     by_cases hw : (e.den S ρ).toBool = want
     ·obtain ⟨st1, hd1, hn1, h1⟩ := YN S w0 F hd hs hw ht
      exact go st1 hd1 hn1 (hy hw) h1
     ·have hw' : (e.den S ρ).toBool = !want := by cases hx : (e.den S ρ).toBool <;> cases want <;> simp_all
      obtain ⟨st1, hd1, hn1, h1⟩ := YN S w0 F hd hs hw' hf
      exact done st1 hd1 hn1 h1
    ·exact h.elim
   ·-- loud ones: whichever comes
    split at h
    ·rename_i d e want hfa
     obtain ⟨hs, _⟩ := ZdH S hd.fr hfa
     obtain ⟨ht, hf⟩ := h
     by_cases hw : (e.den S ρ).toBool = want
     ·obtain ⟨st1, hd1, hn1, h1⟩ := YN S w0 F hd hs hw ht
      exact done st1 hd1 hn1 h1
     ·have hw' : (e.den S ρ).toBool = !want := by cases hx : (e.den S ρ).toBool <;> cases want <;> simp_all
      obtain ⟨st1, hd1, hn1, h1⟩ := YN S w0 F hd hs hw' hf
      exact done st1 hd1 hn1 h1
    ·have hir0 : i0 ∈ Region.ready .any ops listed := by rw [hready]; exact ZJv
     have hil0 := (mem_ready.1 hir0).1
     obtain ⟨k', rfl⟩ : ∃ k', k = k' + 1 := ⟨k - 1, by have := Zap hil0; omega⟩
     refine ⟨fun h0 => (by rw [h0] at hir0; cases hir0), fun j hj => ?_⟩
     have hil := (mem_ready.1 hj).1
     have hir := hj
     have hk' : left (listed.setIfInBounds j true) <= k' := by have := Zap hil; omega
     rw [hready] at hj
     have h := ZnV S h _ (List.mem_map_of_mem hj)
     split at h
     ·rename_i o hi
      have hg := Yp S hd.fr ops o
      split at h
      ·rename_i he
       rw [he] at hg
       unfold Go.wpOp
       simp only [hi, hg, if_true]
       refine .inl (Zib S w0 F hb hC (Zjk S w0 F hd) (fun x => Zgd S hd.fr x) h ?_)
       intro ρ' sv st' w' v hn hsv hk2
       cases hall : (recs.filter fun r => !(ZdM o r.i)).all (Zhh P st'.hp st'.asm st.n)
       ·rw [hall] at hk2; exact hk2.elim
       rw [hall] at hk2
       simp only [cond_true] at hk2
       have hrel2 : ∀ s ∈ R, Zaj ops X (listed.setIfInBounds j true) s -> ∃ r ∈ recs.filter (fun r => !(ZdM o r.i)), Zk5 S ρ r s := by
        intro s hs hv
        obtain ⟨r, hr, hrd⟩ := hrel s hs (ZeC hil hv)
        refine ⟨r, List.mem_filter.2 ⟨hr, ?_⟩, hrd⟩
        have := hv j o hi (fun hx => by have := hX j hx; rw [hil] at this; cases this) (Zx hil _)
        rw [hrd.1, this]; rfl
       have hrec : ∀ r ∈ recs.filter (fun r => !(ZdM o r.i)), ∀ s, Zk5 S ρ r s -> Zk5 S ρ' r s /\ (execOp s.ev s.o).run P w' = .ok (.value s.v) w' := by
        intro r hr s hrd
        have hro := List.all_eq_true.1 hall r hr
        unfold Zhh at hro
        cases hvl : r.v.lt st.n
        ·rw [hvl] at hro; cases hro
        cases hLl : r.L.all (fun p => p.2.lt st.n)
        ·rw [hvl, hLl] at hro; cases hro
        rw [hvl, hLl] at hro
        simp only [cond_true] at hro
        split at hro
        ·rename_i v' hq
         obtain ⟨h1, h2, h3, h4⟩ := hrd
         have h3' : ∀ x, (lkA r.L x).R S ρ' (s.ev x) := fun x => ZB6 S hn.ext hLl (h3 x)
         obtain ⟨x, hrun, hx⟩ := ZaO S ρ' w0 hn.hs.asm hn.hs.hp h3' hq (fun e he => nomatch he)
         obtain ⟨hj1, hj2, hsame⟩ := Zzp S (ρ := ρ') hro
         have hvd : s.v = r.v.den S ρ := h4.resolve_left (by rw [hj1]; simp)
         have hxd : x = v'.den S ρ' := hx.resolve_left (by rw [hj2]; simp)
         have hsv' : s.v = r.v.den S ρ' := by rw [hvd, SV.den_ext S hn.ext hvl]
         refine ⟨⟨h1, h2, h3', .inr hsv'⟩, ?_⟩
         rw [<- h2, hrun, hxd, hsv', hsame]
        ·cases hro
       have hT2 : TR P ops X R (listed.setIfInBounds j true) w' := by
        intro s hs hv
        obtain ⟨r, hr, hrd⟩ := hrel2 s hs hv
        exact (hrec r hr s hrd).2
       refine ⟨hT2, ih _ _ _ X R k' ρ' _ w' (Zjo S w0 F hd hn hsv) (hc.set hir) ?_ ?_ hT2 hk' hk2 ?_⟩
       ·intro j' hj'
        by_cases hij : j = j'
        ·subst hij; exact Zx hil _
        ·rw [getD_set_ne true hij]; exact hX j' hj'
       ·intro s hs hv
        obtain ⟨r, hr, hrd⟩ := hrel2 s hs hv
        exact ⟨r, hr, (hrec r hr s hrd).1⟩
       ·intro ρ2 st2 a2 w2 haf hk3
        exact hK _ _ _ _ (YU.step S w0 F (st1 := { st' with fr := Zac st'.fr o.dst sv }) hn.ext hn.le haf) hk3
      ·exact h.elim
     ·exact h.elim
theorem Zej {body : Nat -> List SV -> St -> (SV -> St -> VC) -> VC} (hb : Zcc S w0 F P body) (hC : ZrL S P C) {id : Nat} {ops : Array Oper} {K : St -> VC} {Q : Exit -> Act -> World -> Prop} (hm : P.follows .mixedOrders = true) (hns : Region.noSelect ops = true) (hQp : ∀ c a w, ¬ Q (.panic c) a w)
  {fuel : Nat} {st : St} {ρ : Env G} {a : Act} {w : World} (hd : Den S ρ w0 F st a w) (h : (Y3 P C body ops fuel (Array.replicate ops.size false) [] st K).den S ρ)
  (hK : ∀ ρ' st' a' w', YU S w0 F st ρ ρ' st' a' w' -> (K st').den S ρ' -> Q .normal a' w') : (Code.region id ops true).wp P Q a w := by
 refine wp_region_any hm ?_
 refine Zbf _ _ _ _ (Zc6 S w0 F hb hC hns hQp fuel _ [] st (fun _ => False) [] ops.size ρ a _ ⟨hd.fr, hd.df, Sat.drew hd.hp _, hd.asm⟩ ?_ (fun _ h => h.elim) (fun s hs => nomatch hs) (fun s hs => nomatch hs) ?_ h hK)
 ·intro j o hj hl
  have hlt : j < ops.size := (Array.getElem?_eq_some_iff.1 hj).1
  simp [hlt] at hl
 ·unfold left
  exact Nat.le_trans List.countP_le_length (by simp)
end
end
end Go.Eng
namespace Go.Eng
noncomputable section
open Go.RowKit (Below)
section
variable {G : Type} (S : Sig G) (w0 : World) (F : Zd) {P : Program} {C : Cx}
/-! ### Loops -/
def ZFF (P : Program) (c : Code) (Q : Exit -> Act -> World -> Prop) (a : Act) (w : World) : Prop :=
 ∀ (b : Frame) (k : List Item) (cs : List Frame), ∃ e a' w', Q e a' w' /\ Arrives P (lone (b.at a (.code c :: .inLoop c :: k)) cs w) b k cs e a' w'
theorem ZwF {c : Code} {Q : Exit -> Act -> World -> Prop} {a : Act} {w : World} (h : ZFF P c Q a w) : (Code.loop c).wp P Q a w := by
 intro b k cs
 obtain ⟨e, a', w', hq, harr⟩ := h b k cs
 exact ⟨e, a', w', hq, .of_steps (.one step_loop) harr⟩
theorem Zk8 {c : Code} {Q : Exit -> Act -> World -> Prop} {a : Act} {w : World} (h : c.wp P (Exit.then (ZFF P c Q) Q) a w) : ZFF P c Q a w := by
 intro b k cs
 obtain ⟨e, a₁, w₁, hq, harr⟩ := h b (.inLoop c :: k) cs
 cases e with
 | normal =>
  obtain ⟨e₂, a₂, w₂, hq₂, harr₂⟩ := hq b k cs
  exact ⟨e₂, a₂, w₂, hq₂, .of_steps (Steps.trans harr (.one step_inLoop)) harr₂⟩
 | exit id => exact ⟨_, a₁, w₁, hq, .pass (x := .inLoop c) rfl (fun _ _ => .inl (by simp)) harr⟩
 | goto l => exact ⟨_, a₁, w₁, hq, .pass (x := .inLoop c) rfl (fun _ _ => .inl (by simp)) harr⟩
 | ret => exact ⟨_, a₁, w₁, hq, .pass (x := .inLoop c) rfl (fun _ _ => .inl (by simp)) harr⟩
 | panic ch => exact ⟨_, a₁, w₁, hq, .pass (x := .inLoop c) rfl (fun _ _ => .inl (by simp)) harr⟩
 | outgrown => exact ⟨_, a₁, w₁, hq, .pass (x := .inLoop c) rfl (fun _ _ => .inl (by simp)) harr⟩
theorem Zz5 {c : Code} {Q : Exit -> Act -> World -> Prop} (I : Nat -> Act -> World -> Prop) (round : ∀ n a w, I n a w -> c.wp P (Exit.then (fun a' w' => ∃ m, m < n /\ I m a' w') Q) a w) :
  ∀ n a w, I n a w -> ZFF P c Q a w := by
 intro n
 induction n using Nat.strongRecOn with
 | _ n ih =>
  intro a w hI
  refine Zk8 (wp_mono (round n a w hI) ?_)
  intro e a' w' h
  cases e with
  | normal => obtain ⟨m, hm, hI'⟩ := h; exact ih m hm a' w' hI'
  | _ => exact h
/-! ### Annotations -/
theorem Zeu {f id : Nat} {a : Ann} (h : a ∈ ZbZ C f id) : ∃ l i, ZS C.anns f = some l /\ (i, a) ∈ l := by
 unfold ZbZ at h
 split at h
 ·rename_i l hl
  obtain ⟨⟨i, b⟩, hm, hb⟩ := List.mem_filterMap.1 h
  simp only [ZJr] at hb
  split at hb
  ·cases hb; exact ⟨l, i, hl, hm⟩
  ·cases hb
 ·cases h
/-! ### Invariants -/
theorem Ch.bq_eq {a b : Ch} (h : Ch.bq a b = true) : a = b := by
 cases a <;> cases b <;> simp only [Ch.bq, ZJr] at h <;> first | (cases h; done) | skip
 ·split at h
  ·rename_i h1; split at h
   ·rename_i h2; rw [ZJo h1, SX.bq_eq h2, SCs.bq_eq h]
   ·cases h
  ·cases h
 ·split at h
  ·rename_i h1; split at h
   ·rename_i h2; split at h
    ·rename_i h3; rw [of_decide_eq_true h1, SX.bq_eq h2, SX.bq_eq h3, SX.bq_eq h]
    ·cases h
   ·cases h
  ·cases h
 ·split at h
  ·rename_i h1; split at h
   ·rename_i h2; split at h
    ·rename_i h3; rw [of_decide_eq_true h1, SX.bq_eq h2, SX.bq_eq h3, SX.bq_eq h]
    ·cases h
   ·cases h
  ·cases h
 ·split at h
  ·rename_i h0; split at h
   ·rename_i h1; split at h
    ·rename_i h2; split at h
     ·rename_i h3; split at h
      ·rename_i h4; rw [ZJo h0, of_decide_eq_true h1, SX.bq_eq h2, SX.bq_eq h3, SX.bq_eq h4, SX.bq_eq h]
      ·cases h
     ·cases h
    ·cases h
   ·cases h
  ·cases h
 ·split at h
  ·rename_i h0; split at h
   ·rename_i h1; split at h
    ·rename_i h2; rw [MK.bq_eq h0, of_decide_eq_true h1, SX.bq_eq h2, SX.bq_eq h]
    ·cases h
   ·cases h
  ·cases h
 ·split at h
  ·rename_i h1; split at h
   ·rename_i h2; rw [ZJo h1, SX.bq_eq h2, SX.bq_eq h]
   ·cases h
  ·cases h
 ·simp only [<- ZJr] at h
  rename_i kk v b m r l c kk' v' b' m' r' l' c'
  cases h1 : MK.bq kk kk'
  ·rw [h1] at h; cases h
  cases h2 : decide (v = v')
  ·rw [h1, h2] at h; cases h
  cases h3 : SX.bq b b'
  ·rw [h1, h2, h3] at h; cases h
  cases h4 : SX.bq m m'
  ·rw [h1, h2, h3, h4] at h; cases h
  cases h5 : SX.bq r r'
  ·rw [h1, h2, h3, h4, h5] at h; cases h
  cases h6 : SX.bq l l'
  ·rw [h1, h2, h3, h4, h5, h6] at h; cases h
  rw [h1, h2, h3, h4, h5, h6] at h
  rw [MK.bq_eq h1, of_decide_eq_true h2, SX.bq_eq h3, SX.bq_eq h4, SX.bq_eq h5, SX.bq_eq h6, SX.bq_eq h]
theorem Zfd {ρ : Env G} {c : Ch} : ∀ {l r : List Ch}, ZpN c l = some r -> Ze S ρ w0 l = Zg (c.den S ρ w0) (Ze S ρ w0 r)
 | [], r, h => nomatch h
 | d :: l, r, h => by
  simp only [ZpN, ZJr] at h
  split at h
  ·rename_i hq; cases h; rw [Ch.bq_eq hq]; rfl
  ·obtain ⟨r', h1, h⟩ := Zb h
   cases h
   rw [Zw, Zfd h1, Zw, Zq]
theorem ZbW {ρ : Env G} : ∀ {l hp r : List Ch}, ZjE l hp = some r -> Ze S ρ w0 hp = Zg (Ze S ρ w0 l) (Ze S ρ w0 r)
 | [], hp, r, h => by
  cases h
  have : Ze S ρ w0 [] = emp := rfl
  rw [this, ZP, star_emp]
 | c :: l, hp, r, h => by
  obtain ⟨hp', h1, h⟩ := Zb h
  rw [Zfd S w0 h1, ZbW h, Zw, Zc]
theorem ZeG {d : Nat} {th : List SX} {ss : List Srt} {slots : List (Nat × SV)} {ρ ρI : Env G} {asm : List SX} (ha : ∀ x ∈ asm, (x.den S ρ).tP) (hT : ThR S d th ss ρ ρI)
  (hsl : slots.all (fun p => p.2.wf d ss) = true) (hE : ∀ e : SV, e.lt d = true -> e.den S ρI = e.den S ρ) :
  ∀ {head fr : List SV} {i : Nat} {ns ns' : List SX} {tm : List Value}, ZGd asm d th slots ns i head fr = some ns' -> (∀ x ∈ ns', (x.den S ρ).tP) -> head.all (SV.lt d) = true -> FrR S ρ fr tm →
   FrR S ρI (Za0 slots i head) tm /\ ∀ x ∈ ns, (x.den S ρ).tP
 | [], [], i, ns, ns', tm, h, hn, hh, hf => by
  cases h
  cases tm with
  | nil => exact ⟨trivial, hn⟩
  | cons => exact hf.elim
 | [], _ :: _, i, ns, ns', tm, h, hn, hh, hf => nomatch h
 | _ :: _, [], i, ns, ns', tm, h, hn, hh, hf => nomatch h
 | g :: hs, v :: vs, i, ns, ns', tm, h, hn, hh, hf => by
  cases tm with
  | nil => exact hf.elim
  | cons x tm =>
   simp only [List.all_cons, Bool.and_eq_true] at hh
   simp only [ZGd] at h
   split at h
   ·rename_i p hp
    obtain ⟨n1, e1, h⟩ := Zb h
    obtain ⟨h2, hn1⟩ := ZeG ha hT hsl hE h hn hh.2 hf.2
    obtain ⟨h1, hn0⟩ := ZdI S ρ ha e1 hn1
    refine ⟨?_, hn0⟩
    simp only [Za0, hp]
    have hw : p.wf d ss = true := List.all_eq_true.1 hsl _ (Zab hp)
    exact ⟨(SV.sub_R S ρ hT hw).1 (h1 x hf.1), h2⟩
   ·rename_i hp
    obtain ⟨n1, e1, h⟩ := Zb h
    obtain ⟨h2, hn1⟩ := ZeG ha hT hsl hE h hn hh.2 hf.2
    obtain ⟨h1, hn0⟩ := ZdI S ρ ha e1 hn1
    refine ⟨?_, hn0⟩
    simp only [Za0, hp]
    refine ⟨?_, h2⟩
    rcases h1 x hf.1 with hj | he
    ·exact .inl hj
    ·exact .inr (by rw [hE g hh.1]; exact he)
theorem ZBi {iv : Inv} {n : Nat} (h : iv.wf n = true) : iv.meas.wf n iv.ss = true /\ iv.facts.all (SX.wf n iv.ss) = true /\ iv.hp.all (Ch.wf n iv.ss) = true /\ iv.slots.all (fun p => p.2.wf n iv.ss) = true /\ iv.meas.lt (n + iv.ss.length) = true := by
 unfold Inv.wf at h
 simp only [ZJr] at h
 split at h
 ·rename_i h1; split at h
  ·rename_i h2; split at h
   ·rename_i h3; split at h
    ·rename_i h4; exact ⟨h1, h2, h3, h4, h⟩
    ·cases h
   ·cases h
  ·cases h
 ·cases h
theorem ZeD {n : Nat} {ρ ρ' : Env G} {st : St} {iv : Inv} {head : List SV} {th ns : List SX} {rest base : List Ch} {left : List Ch} {asm0 : List SX} {a : Act} {w : World} (hE : Ext n ρ ρ') (hd : Den S ρ' w0 F st a w)
  (hw : iv.wf n = true) (hh : head.all (SV.lt n) = true) (hb : base.all (Ch.lt n) = true) (h : meet n st iv head = some (th, ns, rest)) (hn : ∀ x ∈ ns, (x.den S ρ').tP) (hold : Ze S ρ' w0 rest = Zg (Ze S ρ' w0 base) (Ze S ρ' w0 left))
  (has : asm0.all (SX.lt n) = true) (ha0 : ∀ x ∈ asm0, (x.den S ρ).tP) :
  ∃ us : List (U G), us.length = iv.ss.length /\ Den S (YX S ρ n iv.ss us) w0 F { fr := Za0 iv.slots 0 head, hp := iv.hp ++ base, n := n + iv.ss.length, asm := iv.facts ++ asm0 } a w ∧
   (∀ x ∈ iv.facts, (x.den S (YX S ρ n iv.ss us)).tP) /\ (iv.meas.sub n th).den S ρ' = iv.meas.den S (YX S ρ n iv.ss us) := by
 obtain ⟨w1, w2, w3, w4, w5⟩ := ZBi hw
 unfold meet at h
 simp only at h
 obtain ⟨th', hth, h⟩ := Zb h
 simp only [ZJr] at h
 split at h
 ·rename_i hok
  obtain ⟨ns1, hfr, h⟩ := Zb h
  obtain ⟨⟨ns2, rest', ks⟩, htk, h⟩ := Zb h
  simp only at h
  split at h
  ·cases h
   let us : List (U G) := (List.range iv.ss.length).map fun j => (Zah th j).den S ρ'
   have hus : us.length = iv.ss.length := by simp [us]
   have husj : ∀ j s, iv.ss[j]? = some s -> us[j]? = some ((Zah th j).den S ρ') := fun j s hs => by
    have := (List.getElem?_eq_some_iff.1 hs).1
    simp [us, this]
   have hEI : Ext n ρ (YX S ρ n iv.ss us) := Yv S ρ n iv.ss us
   have hT : ThR S n th iv.ss ρ' (YX S ρ n iv.ss us) := ⟨fun i hi => by rw [hEI i hi, hE i hi], fun i s hs => by
    rw [ZgT S (n := n) (ρ := ρ) hs (husj _ _ hs), U.co_co]
    have h1 := ZdB hok i s hs
    have h2 := SX.srt_co S ρ' (Zah th i)
    rw [h1] at h2
    exact h2⟩
   obtain ⟨hfa, hn2⟩ := ZcB S ρ' hd.asm hn
   have hfacts := (ZiR S ρ' hT w2).1 hfa
   obtain ⟨hn1, htake⟩ := Zas S ρ' w0 hd.asm S.ch htk hn2 (fun i K hm => nomatch hm)
   have hEE : ∀ e : SV, e.lt n = true -> e.den S (YX S ρ n iv.ss us) = e.den S ρ' := fun e he => by rw [SV.den_ext S hEI he, SV.den_ext S hE he]
   obtain ⟨hfrR, _⟩ := ZeG S hd.asm hT w4 hEE hfr hn1 hh hd.fr
   refine ⟨us, hus, ⟨hfrR, hd.df, ?_, ?_⟩, hfacts, SX.sub_den S ρ' hT w1⟩
   ·have key : ∀ y, Zg (Ze S ρ' w0 st.hp) F y -> Zg (Ze S ρ' w0 left) (Zg (Ze S (YX S ρ n iv.ss us) w0 (iv.hp ++ base)) F) y := by
     intro y hy
     have := htake _ _ hy
     rw [ZcI S ρ' w0 hT S.ch w3, hold] at this
     have hbase : Ze S ρ' w0 base = Ze S (YX S ρ n iv.ss us) w0 base := by rw [Zb8 S hE w0 hb, Zb8 S hEI w0 hb]
     rw [hbase] at this
     rw [ZeO]
     rw [Zc, Zq (Ze S ρ' w0 left), Zq (Ze S ρ' w0 left), <- Zc (Ze S (YX S ρ n iv.ss us) w0 base)]
     exact this
    exact Sat.drop (hd.hp.mono key)
   ·intro e he
    rcases List.mem_append.1 he with he | he
    ·exact hfacts e he
    ·rw [SX.den_ext S hEI (List.all_eq_true.1 has e he)]; exact ha0 e he
  ·cases h
 ·cases h
theorem ZK (K : St -> VC) : ∀ (l : List Ann), (∀ sp args, Ann.ghost sp args ∈ l -> sp.wf = true /\ ZcO S sp) -> ∀ (st : St) (ρ : Env G) (a : Act) (w : World), Den S ρ w0 F st a w -> (Y0 st K l).den S ρ →
  ∃ ρ' st', YU S w0 F st ρ ρ' st' a w /\ (K st').den S ρ'
 | [], _, st, ρ, a, w, hd, h => ⟨ρ, st, ⟨Ext.refl _ _, ZJd _, hd⟩, h⟩
 | .inv i :: l, hl, st, ρ, a, w, hd, h => ZK K l (fun sp args hm => hl sp args (ZJt _ hm)) st ρ a w hd h
 | [.iff e], hl, st, ρ, a, w, hd, h => ⟨ρ, st, ⟨Ext.refl _ _, ZJd _, hd⟩, h⟩
 | .iff e :: x :: l, hl, st, ρ, a, w, hd, h => by
  simp only [Y0] at h
  cases hi : ZaP e st.asm
  ·rw [hi] at h
   exact ZK K l (fun sp args hm => hl sp args (ZJt _ (ZJt _ hm))) st ρ a w hd h
  ·rw [hi] at h
   exact ZK K (x :: l) (fun sp args hm => hl sp args (ZJt _ hm)) st ρ a w hd h
 | .split e :: l, hl, st, ρ, a, w, hd, h => by
  simp only [Y0] at h
  cases hq : sq e.srt .bool
  ·rw [hq] at h; exact h.elim
  rw [hq] at h
  obtain ⟨ht, hf⟩ := h
  have hc : ∀ (x : SX), (x.den S ρ).tP -> ∀ y ∈ x :: st.asm, (y.den S ρ).tP := fun x hx y hy => by
   rcases List.mem_cons.1 hy with rfl | hy
   ·exact hx
   ·exact hd.asm y hy
  cases hv : (e.den S ρ).toBool
  ·have hp' : ((Zef e).den S ρ).tP := by rw [ZaU, ZaY S hq, hv]; rfl
   exact ZK K l (fun sp args hm => hl sp args (ZJt _ hm)) { st with asm := Zef e :: st.asm } ρ a w ⟨hd.fr, hd.df, hd.hp, hc _ hp'⟩ (hf hp')
  ·have hp : (e.den S ρ).tP := by rw [ZaY S hq, hv]; rfl
   exact ZK K l (fun sp args hm => hl sp args (ZJt _ hm)) { st with asm := e :: st.asm } ρ a w ⟨hd.fr, hd.df, hd.hp, hc _ hp⟩ (ht hp)
 | .cut N head base iv0 :: l, hl, st, ρ, a, w, hd, h => by
  simp only [Y0] at h
  generalize iv0.at N = iv at h
  split at h
  ·exact h.elim
  ·rename_i th ns rest hm
   split at h
   ·exact h.elim
   rename_i lft hhold
   cases hN : Nat.ble st.n N
   ·rw [hN] at h; exact h.elim
   rw [hN, cond_true] at h
   cases h1 : iv.wf N
   ·rw [h1] at h; exact h.elim
   cases h2 : head.all (SV.lt N)
   ·rw [h1, h2] at h; exact h.elim
   cases h3 : base.all (Ch.lt N)
   ·rw [h1, h2, h3] at h; exact h.elim
   rw [h1, h2, h3] at h
   simp only [cond_true] at h
   have hle : st.n <= N := ZJA hN
   obtain ⟨hn, hk⟩ := ZA S ρ h
   obtain ⟨us, hus, hdI, hf, _⟩ := ZeD S w0 F (Ext.refl N ρ) hd h1 h2 h3 hm hn (ZbW S w0 hhold) (asm0 := []) rfl (fun x hx => nomatch hx)
   have hkk := Zfz S _ (Zi1 S hk us hus) hf
   obtain ⟨ρ2, st2, haf, hk2⟩ := ZK K l (fun sp args hm => hl sp args (ZJt _ hm)) _ _ a w hdI hkk
   exact ⟨ρ2, st2, YU.step S w0 F (fun i hi => Yv S ρ N iv.ss us i (Nat.lt_of_lt_of_le hi hle)) (Nat.le_trans hle (Nat.le_add_right _ _)) haf, hk2⟩
 | .ghost sp args :: l, hl, st, ρ, a, w, hd, h => by
  simp only [Y0] at h
  split at h
  ·rename_i v hv
   obtain ⟨hwf, hg⟩ := hl sp args ZJv
   obtain ⟨ch, ρc, F', h1, h2, h3, h4⟩ := ZbD S ρ w0 hwf (Zjk S w0 F hd) (Zg9 S (fun x => Zgd S hd.fr x) args) hv h
   obtain ⟨ρc', he, hs, hf⟩ := hg ch w0 F' ρc w h2 h3
   obtain ⟨ρ', sv, st', hn, _, hk⟩ := h4 ρc' w he hs hf
   have hd' : Den S ρ' w0 F st' a w := ⟨by rw [hn.fr]; exact hn.frR _ hd.fr, hd.df, hn.hs.hp, hn.hs.asm⟩
   obtain ⟨ρ2, st2, haf, hk2⟩ := ZK K l (fun sp args hm => hl sp args (ZJt _ hm)) st' ρ' a w hd' hk
   exact ⟨ρ2, st2, YU.step S w0 F hn.ext hn.le haf, hk2⟩
  ·exact h.elim
end
end
end Go.Eng
namespace Go.Eng
noncomputable section
open Go.RowKit (Below)
section
variable {G : Type} (S : Sig G) (w0 : World) (F : Zd) {P : Program} {C : Cx}
def Wp (P : Program) (c : Code) (Q : Exit -> Act -> World -> Prop) (a : Act) (w : World) : Prop := (∀ b, c = .loop b -> ZFF P b Q a w) /\ c.wp P Q a w
theorem Wp.of {c : Code} {Q : Exit -> Act -> World -> Prop} {a : Act} {w : World} (hc : ∀ b, c ≠ .loop b) (h : c.wp P Q a w) : Wp P c Q a w := ⟨fun b hb => absurd hb (hc b), h⟩
theorem Wp.loop {b : Code} {Q : Exit -> Act -> World -> Prop} {a : Act} {w : World} (h : ZFF P b Q a w) : Wp P (.loop b) Q a w := ⟨fun b' hb => by cases hb; exact h, ZwF h⟩
structure KtR (K : Kt) (st : St) (ρ : Env G) (Q : Exit -> Act -> World -> Prop) : Prop where
 nrm : ∀ ρ' st' a' w', YU S w0 F st ρ ρ' st' a' w' -> (K.nrm st').den S ρ' -> Q .normal a' w'
 ret : ∀ ρ' st' a' w', YU S w0 F st ρ ρ' st' a' w' -> (K.ret st').den S ρ' -> Q .ret a' w'
 ext : ∀ i ρ' st' a' w', YU S w0 F st ρ ρ' st' a' w' -> (K.ext i st').den S ρ' -> Q (.exit i) a' w'
 pan : ∀ c a w, ¬ Q (.panic c) a w
theorem KtR.step {K : Kt} {st st1 : St} {ρ ρ1 : Env G} {Q : Exit -> Act -> World -> Prop} (hE : Ext st.n ρ ρ1) (hn : st.n <= st1.n) (h : KtR S w0 F K st ρ Q) : KtR S w0 F K st1 ρ1 Q :=
 ⟨fun _ _ _ _ ha hk => h.nrm _ _ _ _ (YU.step S w0 F hE hn ha) hk, fun _ _ _ _ ha hk => h.ret _ _ _ _ (YU.step S w0 F hE hn ha) hk, fun i _ _ _ _ ha hk => h.ext i _ _ _ _ (YU.step S w0 F hE hn ha) hk, h.pan⟩
theorem KtR.asm {K : Kt} {st st1 : St} {ρ : Env G} {Q : Exit -> Act -> World -> Prop} (hn : st.n = st1.n) (h : KtR S w0 F K st ρ Q) : KtR S w0 F K st1 ρ Q := h.step S w0 F (Ext.refl _ _) (Nat.le_of_eq hn)
theorem Zql {ρ : Env G} {e : SX} {l : List SX} (h : (e.den S ρ).tP) (h' : ∀ x ∈ l, (x.den S ρ).tP) : ∀ x ∈ e :: l, (x.den S ρ).tP := fun x hx => by
 rcases List.mem_cons.1 hx with rfl | hx
 ·exact h
 ·exact h' x hx
theorem ZcL {body : Nat -> List SV -> St -> (SV -> St -> VC) -> VC} (hb : Zcc S w0 F P body) (hC : ZrL S P C) (f : Nat) :
  ∀ (fuel : Nat) (c : Code) (st : St) (ρ : Env G) (a : Act) (w : World) (K : Kt) (Q : Exit -> Act -> World -> Prop), Den S ρ w0 F st a w -> (sx P C body f fuel c st K).den S ρ -> KtR S w0 F K st ρ Q -> Wp P c Q a w := by
 intro fuel
 induction fuel with
 | zero => intro c st ρ a w K Q hd h hK; exact h.elim
 | succ fuel ih =>
  intro c st ρ a w K Q hd h hK
  have refl : YU S w0 F st ρ ρ st a w := ⟨Ext.refl _ _, ZJd _, hd⟩
  unfold sx at h
  split at h
  ·exact Wp.of (by intros; simp) (wp_skip (hK.nrm _ _ _ _ refl h))
  ·exact Wp.of (by intros; simp) (wp_label (hK.nrm _ _ _ _ refl h))
  ·-- region
   rename_i id ops draw
   refine Wp.of (by intros; simp) ?_
   obtain ⟨ρ1, st1, haf, hk⟩ := ZK S w0 F _ (ZbZ C f id) (fun sp args hm => by obtain ⟨l, i, hl, hm⟩ := Zeu hm; exact hC.2.1 f l hl i sp args hm) st ρ a w hd h
   have hn : ∀ ρ' st' a' w', YU S w0 F st1 ρ1 ρ' st' a' w' -> (Y0 st' K.nrm (ZbZ C f (500000 + id))).den S ρ' -> Q .normal a' w' := fun ρ' st' a' w' h1 h2 => by
    obtain ⟨ρ2, st2, haf2, hk2⟩ := ZK S w0 F _ (ZbZ C f (500000 + id)) (fun sp args hm => by obtain ⟨l, i, hl, hm⟩ := Zeu hm; exact hC.2.1 f l hl i sp args hm) st' ρ' a' w' h1.2.2 h2
    exact hK.nrm _ _ _ _ (YU.step S w0 F haf.1 haf.2.1 (YU.step S w0 F h1.1 h1.2.1 haf2)) hk2
   cases draw
   ·simp only [cond_false] at hk
    exact wp_region_list (Zeh S w0 F hb hC ops.toList st1 ρ1 a w haf.2.2 hk hn)
   ·simp only [cond_true] at hk
    cases hm : P.follows .mixedOrders
    ·rw [hm] at hk; exact hk.elim
    cases hns : Region.noSelect ops
    ·rw [hm, hns] at hk; exact hk.elim
    rw [hm, hns] at hk
    exact Zej S w0 F hb hC hm hns hK.pan haf.2.2 hk hn
  ·-- seq
   rename_i x y
   refine Wp.of (by intros; simp) (wp_seq (ih x st ρ a w _ _ hd h ⟨?_, ?_, ?_, ?_⟩).2)
   ·intro ρ' st' a' w' haf hk
    exact (ih y st' ρ' a' w' K Q haf.2.2 hk (hK.step S w0 F haf.1 haf.2.1)).2
   ·intro ρ' st' a' w' haf hk; exact hK.ret _ _ _ _ haf hk
   ·intro i ρ' st' a' w' haf hk; exact hK.ext i _ _ _ _ haf hk
   ·intro c a w h; exact hK.pan c a w h
  ·-- cond
   rename_i x c1 c2
   refine Wp.of (by intros; simp) ?_
   have hx := Zgd S hd.fr x
   split at h
   ·rename_i he; rw [he] at hx
    exact wp_cond_true (by rw [R_one S ρ hx]; rfl) (ih c1 st ρ a w K Q hd h hK).2
   ·rename_i he; rw [he] at hx
    exact wp_cond_false (by rw [R_one S ρ hx]; rfl) (ih c2 st ρ a w K Q hd h hK).2
   ·rename_i e _ _ he; rw [he] at hx
    cases hq : sq e.srt .bool
    ·rw [hq] at h; exact h.elim
    rw [hq] at h
    simp only [cond_true] at h
    obtain ⟨ht, hf⟩ := h
    have hev := R_one S ρ hx
    simp only [SC.den] at hev
    cases hv : (e.den S ρ).toBool
    ·rw [hv] at hev
     have hp : ¬ (e.den S ρ).tP := by rw [ZaY S hq, hv]; simp
     have hp' : ((Zef e).den S ρ).tP := by rw [ZaU, ZaY S hq, hv]; rfl
     refine wp_cond_false hev ?_
     cases hin : ZaP e st.asm
     ·rw [hin] at hf
      exact (ih c2 { st with asm := Zef e :: st.asm } ρ a w K Q ⟨hd.fr, hd.df, hd.hp, Zql S hp' hd.asm⟩ (hf hp') (KtR.asm S w0 F (st := st) rfl hK)).2
     ·exact absurd (hd.asm _ (Zbi hin)) hp
    ·rw [hv] at hev
     have hp : (e.den S ρ).tP := by rw [ZaY S hq, hv]; rfl
     have hp' : ¬ ((Zef e).den S ρ).tP := by rw [ZaU, ZaY S hq, hv]; simp
     refine wp_cond_true hev ?_
     cases hin : ZFJ e st.asm
     ·rw [hin] at ht
      exact (ih c1 { st with asm := e :: st.asm } ρ a w K Q ⟨hd.fr, hd.df, hd.hp, Zql S hp hd.asm⟩ (ht hp) (KtR.asm S w0 F (st := st) rfl hK)).2
     ·exact (Zoo S hd.asm hin hp ⟨_, ZaY S hq⟩).elim
   ·exact h.elim
  ·-- block
   rename_i id b
   refine Wp.of (by intros; simp) (wp_block (ih b st ρ a w _ _ hd h ⟨?_, ?_, ?_, ?_⟩).2)
   ·intro ρ' st' a' w' haf hk; exact hK.nrm _ _ _ _ haf hk
   ·intro ρ' st' a' w' haf hk; exact hK.ret _ _ _ _ haf hk
   ·intro i ρ' st' a' w' haf hk
    simp only [Exit.inBlock]
    simp only [ZJr] at hk
    split at hk
    ·rename_i hi; rw [if_pos (ZJo hi)]; exact hK.nrm _ _ _ _ haf hk
    ·rename_i hi
     rw [if_neg (fun h => hi (by subst h; simp))]
     exact hK.ext i _ _ _ _ haf hk
   ·intro c a w h; exact hK.pan c a w h
  ·exact Wp.of (by intros; simp) (wp_exit (hK.ext _ _ _ _ _ refl h))
  ·exact Wp.of (by intros; simp) (wp_ret (hK.ret _ _ _ _ refl h))
  ·-- loop
   rename_i b
   split at h
   ·exact h.elim
   ·rename_i key hkey
    split at h
    ·-- a round by itself
     refine Wp.loop (Zk8 (ih b st ρ a w _ _ hd h ⟨?_, ?_, ?_, ?_⟩).2)
     ·intro ρ' st' a' w' haf hk
      exact (ih (.loop b) st' ρ' a' w' K Q haf.2.2 hk (hK.step S w0 F haf.1 haf.2.1)).1 b rfl
     ·intro ρ' st' a' w' haf hk; exact hK.ret _ _ _ _ haf hk
     ·intro i ρ' st' a' w' haf hk; exact hK.ext i _ _ _ _ haf hk
     ·intro c a w h; exact hK.pan c a w h
    ·rename_i iv0 hiv
     simp only at h
     generalize hIV : iv0.at st.n = iv at h
     generalize ZDp st.fr (Code.writes b) = head at h
     split at h
     ·exact h.elim
     ·rename_i th0 ns rest hmeet
      cases h1 : iv.wf st.n
      ·rw [h1] at h; exact h.elim
      cases h2 : head.all (SV.lt st.n)
      ·rw [h1, h2] at h; exact h.elim
      cases h3 : rest.all (Ch.lt st.n)
      ·rw [h1, h2, h3] at h; exact h.elim
      rw [h1, h2, h3] at h
      simp only [cond_true] at h
      obtain ⟨hn, hfr⟩ := ZA S ρ h
      obtain ⟨hok, hcont⟩ := Zb5 S ρ hfr
      have has : (ns ++ st.asm).all (SX.lt st.n) = true := by
       unfold St.ok at hok
       simp only [ZJr] at hok
       split at hok
       ·split at hok
        ·exact hok
        ·cases hok
       ·cases hok
      have ha0 : ∀ x ∈ ns ++ st.asm, (x.den S ρ).tP := fun x hx => (List.mem_append.1 hx).elim (hn x) (hd.asm x)
      let stI : St := { fr := Za0 iv.slots 0 head, hp := iv.hp ++ rest, n := st.n + iv.ss.length, asm := iv.facts ++ (ns ++ st.asm) }
      let I : Nat -> Act -> World -> Prop := fun m a w => ∃ us : List (U G), us.length = iv.ss.length /\ Den S (YX S ρ st.n iv.ss us) w0 F stI a w /\ (∀ x ∈ iv.facts, (x.den S (YX S ρ st.n iv.ss us)).tP) /\ (iv.meas.den S (YX S ρ st.n iv.ss us)).tI.toNat = m
      obtain ⟨us, hus, hdI, hf, hm⟩ := ZeD S w0 F (Ext.refl st.n ρ) hd h1 h2 h3 hmeet hn (left := []) (by have : Ze S ρ w0 [] = emp := rfl; rw [this, star_emp]) has ha0
      refine Wp.loop (Zz5 I ?_ _ a w ⟨us, hus, hdI, hf, rfl⟩)
      rintro m a1 w1 ⟨us, hus, hdI, hf, hm⟩
      have hEI : Ext st.n ρ (YX S ρ st.n iv.ss us) := Yv S ρ st.n iv.ss us
      refine (ih b stI _ a1 w1 _ _ hdI (hcont us hus hf) ⟨?_, ?_, ?_, ?_⟩).2
      ·intro ρ' st' a' w' haf hk
       simp only at hk
       split at hk
       ·exact hk.elim
       ·rename_i th1 ns1 rest1 hmeet1
        split at hk
        ·exact hk.elim
        ·rename_i lft hhold
         obtain ⟨hk1, _⟩ := ZA S ρ' hk
         obtain ⟨hpos, hk2⟩ := Za S ρ' haf.2.2.asm hk1
         obtain ⟨hlt, hk3⟩ := Za S ρ' haf.2.2.asm hk2
         rw [eLe_den] at hpos
         rw [Yo] at hlt
         obtain ⟨us', hus', hdI', hf', hm'⟩ := ZeD S w0 F (hEI.trans haf.1 (Nat.le_add_right _ _)) haf.2.2 h1 h2 h3 hmeet1 hk3 (ZbW S w0 hhold) has ha0
         have hml := (ZBi h1).2.2.2.2
         have hm0 : iv.meas.den S ρ' = iv.meas.den S (YX S ρ st.n iv.ss us) := SX.den_ext S haf.1 hml
         refine ⟨_, ?_, us', hus', hdI', hf', rfl⟩
         rw [<- hm', <- hm]
         rw [hm0] at hlt
         simp only [SX.den, U.tIi] at hpos
         omega
      ·intro ρ' st' a' w' haf hk; exact hK.ret _ _ _ _ (YU.step S w0 F hEI (Nat.le_add_right _ _) haf) hk
      ·intro i ρ' st' a' w' haf hk; exact hK.ext i _ _ _ _ (YU.step S w0 F hEI (Nat.le_add_right _ _) haf) hk
      ·intro c a w h; exact hK.pan c a w h
  ·exact h.elim
end
end
end Go.Eng
