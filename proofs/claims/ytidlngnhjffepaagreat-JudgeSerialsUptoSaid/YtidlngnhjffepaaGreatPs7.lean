/- Part of a proof. -/
import Derived.Test.YtidlngnhjffepaaGreatPs6
import Derived.LaidEql
import Derived.WalkKit
import Derived.Laws.Tables
import Derived.Laws.IdiomStrings
import Derived.Laws.StructEq
import Derived.Laws.CopyRow
import Derived.Laws.RangeString
import Derived.Maps.RangeRun
import Derived.RangeFuncIn
import Derived.RangeFuncLeaves
import Derived.RangeFuncRecord
import Derived.OrdersIn
set_option linter.unusedSimpArgs false
set_option linter.unusedVariables false
set_option maxRecDepth 20000
namespace Go.Cx
open Go.RowKit (Below)
/-! ### Outcomes -/
def Zz (r : Res) (φ : Out -> Prop) : Prop := ∃ l, r = some l /\ ∀ o ∈ l, φ o
theorem Zz.no {φ : Out -> Prop} (h : Zz none φ) : False := by obtain ⟨l, h, _⟩ := h; cases h
theorem Zz.cat {a b : Res} {φ : Out -> Prop} (h : Zz (Res.cat a b) φ) : Zz a φ /\ Zz b φ := by
 obtain ⟨l, h, hl⟩ := h
 unfold Res.cat at h
 split at h
 ·cases h
 ·split at h
  ·cases h
  ·cases h
   exact ⟨⟨_, rfl, fun o ho => hl o (List.mem_append_left _ ho)⟩, ⟨_, rfl, fun o ho => hl o (List.mem_append_right _ ho)⟩⟩
theorem ZdN {α : Type} {b : Bool} {x : Option α} {y : α} (h : (bif b then x else none) = some y) : b = true /\ x = some y :=
 match b, h with
 | true, h => ⟨rfl, h⟩
theorem Zz.bif {b : Bool} {x : Res} {φ : Out -> Prop} (h : Zz (bif b then x else none) φ) : b = true /\ Zz x φ :=
 match b, h with
 | true, h => ⟨rfl, h⟩
 | false, h => h.no.elim
/-! ### The program's tables -/
theorem ZdF {α : Type} : ∀ (l : List α) (i : Nat), Zk5 l i = l[i]?
 | [], _ => by simp [Zk5]
 | a :: l, 0 => by simp [Zk5]
 | a :: l, i + 1 => by simp [Zk5, ZdF l i]
theorem ZpG {α : Type} : ∀ (n : Nat) (l : List α), Zr9 n l = l.drop n
 | 0, _ => by simp [Zr9]
 | n + 1, [] => by simp [Zr9]
 | n + 1, a :: l => by simp [Zr9, ZpG n l]
theorem ZBv {α : Type} (l : List α) : ∀ j, blk l j = l.drop (64 * j)
 | 0 => by simp [blk]
 | j + 1 => by simp only [blk]; rw [ZpG, ZBv l j, List.drop_drop]; congr 1
theorem ZoS {α : Type} (l : List α) (i : Nat) : ZFA l i = l[i]? := by
 unfold ZFA; rw [ZdF, ZBv, ZJp]; congr 1; omega
section
variable {P : Program}
theorem Zaa {t : Nat} {i : TypeInfo} (h : tyI P t = some i) : P.info? t = some i := by
 unfold tyI at h
 rw [ZoS, ZIP] at h
 have hlt := (Array.getElem?_eq_some_iff.1 h).1
 unfold Tables.info?
 rw [if_pos hlt]; exact h
theorem Zd {t : Nat} {d : TypeDesc} (h : tyD P t = some d) : P.underlying t = some d := by
 unfold tyD at h
 split at h
 ·rename_i i hi
  have := Zaa hi
  split at h
  ·rename_i nm u hd
   split at h
   ·rename_i j hj
    cases h
    unfold Program.underlying
    obtain ⟨ds, a1, a2, a3, a4, a5, a6, a7, a8, a9⟩ := i
    simp only at hd; subst hd
    rw [this]; simp [Zaa hj]
   ·cases h
  ·rename_i hn
   cases h
   unfold Program.underlying
   rw [this]
   split
   ·rename_i heq; cases heq; exact absurd rfl (hn _ _)
   ·rename_i heq; cases heq; rfl
   ·rename_i heq; cases heq
 ·cases h
theorem Zew {t n : Nat} (h : Zjq P t = some n) : ∃ i, P.info? t = some i /\ i.size = n := by
 unfold Zjq at h
 split at h
 ·rename_i i hi; cases h; exact ⟨i, Zaa hi, rfl⟩
 ·cases h
theorem YZ {t n : Nat} (h : Zjq P t = some n) (w : World) : (sizeOf t).run P w = .ok n w := by
 obtain ⟨i, hi, rfl⟩ := Zew h
 simp [sizeOf, typeInfo, hi]
theorem Zek {t : Nat} {d : TypeDesc} (h : P.underlying t = some d) (w : World) : (isAgg t).run P w = .ok (ZzY d) w := by
 simp only [isAgg, go_sem, run_underlying h]
 cases d <;> simp [ZzY, run_underlying h]
theorem Zdh {t n : Nat} {b : Bool} (h : tyA P t = some (b, n)) : ∃ d, P.underlying t = some d /\ ZzY d = b /\ Zjq P t = some n := by
 unfold tyA at h
 split at h
 ·rename_i d hd
  split at h
  ·rename_i m hm; cases h; exact ⟨d, Zd hd, rfl, hm⟩
  ·cases h
 ·cases h
theorem ZcO {t : Nat} (h : Zf5 P t = true) : P.underlying t = some (.int .u8) := by
 unfold Zf5 at h
 split at h
 ·rename_i hd; exact Zd hd
 ·cases h
theorem ZH {s : Sem Value} {v : Value} {w w' : World} (h : s.run P w = .ok v w') : (do pure (Next.value (<- s)) : Sem Next).run P w = .ok (.value v) w' := by
 have : (do pure (Next.value (<- s)) : Sem Next) = s.bind (fun v => Sem.pure (Next.value v)) := rfl
 rw [this, Sem.run_bind', h]; rfl
theorem Zb3 (a : Addr) (vs : List Value) (w : World) (h : ∀ j v, vs[j]? = some v -> w.cell? (a.add j) = some v) : (loadCells a vs.length).run P w = .ok vs.toArray w := by
 have key : ∀ (n i : Nat) (acc : Array Value), i + n = vs.length -> (loadCellsFrom a i n acc).run P w = .ok (acc ++ (vs.drop i).toArray) w := by
  intro n
  induction n with
  | zero => intro i acc h'; simp [loadCellsFrom, List.drop_eq_nil_of_le (show vs.length <= i by omega)]
  | succ n ih =>
   intro i acc h'
   have hlt : i < vs.length := by omega
   have hc := h i vs[i] (ZI3 hlt)
   have e : (loadCellsFrom a i (n + 1) acc) = (load (a.add i)).bind (fun v => loadCellsFrom a (i + 1) n (acc.push v)) := rfl
   rw [e, Sem.run_bind']
   have e2 : (load (a.add i)).run P w = .ok vs[i] w := by simp [load, Sem.run, hc]
   rw [e2]
   simp only [Result.andThen]
   rw [ih (i + 1) _ (by omega)]
   congr 1
   rw [List.drop_eq_getElem_cons hlt]
   simp
 have := key vs.length 0 #[] (by omega)
 simpa [loadCells] using this
theorem add_eq (b o n : Nat) : Addr.add ⟨b, o, none⟩ n = ⟨b, o + n, none⟩ := by unfold Addr.add; split <;> simp_all
theorem ZgW {t : Nat} {d : TypeDesc} (hd : P.underlying t = some d) (ha : ZzY d = false) {b o : Nat} {v : Value} {w : World} (h : w.cell? ⟨b, o, none⟩ = some v) : (loadVar t ⟨b, o, none⟩).run P w = .ok v w := by
 have e : loadVar t ⟨b, o, none⟩ = (isAgg t).bind (fun x => if x then ((sizeOf t).bind fun k => (loadCells ⟨b, o, none⟩ k).bind fun vs => Sem.pure (Value.agg vs)) else load ⟨b, o, none⟩) := by
  unfold loadVar; rfl
 rw [e, Sem.run_bind', Zek hd, ha]
 simp [Result.andThen, load, Sem.run, h]
theorem ZhH {t n : Nat} {d : TypeDesc} (hd : P.underlying t = some d) (ha : ZzY d = true) (hn : Zjq P t = some n) {b o : Nat} {vs : List Value} {w : World} (hl : vs.length = n)
  (h : ∀ j v, vs[j]? = some v -> w.cell? ⟨b, o + j, none⟩ = some v) : (loadVar t ⟨b, o, none⟩).run P w = .ok (.agg vs.toArray) w := by
 have e : loadVar t ⟨b, o, none⟩ = (isAgg t).bind (fun x => if x then ((sizeOf t).bind fun k => (loadCells ⟨b, o, none⟩ k).bind fun vs => Sem.pure (Value.agg vs)) else load ⟨b, o, none⟩) := by
  unfold loadVar; rfl
 rw [e, Sem.run_bind', Zek hd, ha]
 simp only [Result.andThen, if_true]
 rw [Sem.run_bind', YZ hn]
 simp only [Result.andThen]
 rw [Sem.run_bind', <- hl, Zb3 _ vs w (fun j v hj => by rw [add_eq]; exact h j v hj)]
 rfl
end
/-! ### Reading -/
theorem Row.cell {w : World} {p t : Nat} {vs : List Value} {fz : Bool} (h : Row w p t vs fz) {i : Nat} {v : Value} (hv : vs[i]? = some v) : w.cell? ⟨p, i, none⟩ = some v /\ w.frozen? ⟨p, i, none⟩ = false /\ i < t := by
 obtain ⟨arr, ty, lo, hi, h1, h2, ⟨sp, h3⟩, h4⟩ := h
 have hi' : i < vs.length := (List.getElem?_eq_some_iff.1 hv).1
 have ha : arr[i]? = some v := by rw [<- ZIP, h3, ZJi hi']; exact hv
 have hlt : i < arr.size := (Array.getElem?_eq_some_iff.1 ha).1
 refine ⟨by simp [World.cell?, h1, ha], ?_, by omega⟩
 simp only [World.frozen?, h1]
 rcases h4 with ⟨rfl, rfl⟩ | ⟨_, h4⟩ <;> simp <;> omega
theorem Zla (σ : Sg) : ∀ (l n : Nat), VRs σ (Zht n l) ((bys l n).map Zd6)
 | 0, _ => by simp [Zht, bys, VRs]
 | l + 1, n => by
  simp only [Zht, bys, ZI9, VRs]
  refine ⟨_, _, rfl, ?_, Zla σ l (n / 256)⟩
  simp only [VR, Zd6, kc]
  congr 1
  rw [UInt8.toNat_ofNat']; have : n % 256 < 256 := Nat.mod_lt _ (by decide)
  simp
section
variable {w0 : World} {σ : Sg} {hp : H} {n : Nat} {w : World}
theorem Zmv (hR : Rel w0 σ hp n w) {b o p t : Nat} {c : CV} (h : rd1 hp b o = some c) (hs : σ b = some (p, t)) : ∃ v, w.cell? ⟨p, o, none⟩ = some v /\ VR σ c v := by
 unfold rd1 at h
 split at h
 ·rename_i cs hc
  obtain ⟨vs, h1, h2⟩ := hR.at hs hc (by simp)
  obtain ⟨y, hy, hr⟩ := h1.get h
  exact ⟨y, (h2.cell hy).1, hr⟩
 ·rename_i l m hc
  obtain ⟨h1, h⟩ := ZdN h
  have h1 : o < l := by simpa [Nat.blt_eq] using h1
  cases h
  have h2 := hR.at hs hc (by simp)
  have hb : ((bys l m).map Zd6)[o]? = some (Zd6 (UInt8.ofNat (ZkE m o))) := by rw [ZIW, Zcm _ _ _ h1]; rfl
  refine ⟨_, (Row.cell h2 hb).1, ?_⟩
  simp only [VR, Zd6, kc]
  congr 1
  rw [UInt8.toNat_ofNat']; have := ZjT m o
  simp; first | done | omega
 ·cases h
theorem Zmr (hR : Rel w0 σ hp n w) {b o p t m : Nat} {cs : List CV} (h : rdN hp b o m = some cs) (hs : σ b = some (p, t)) :
  ∃ vs, vs.length = m /\ VRs σ cs vs /\ ∀ j v, vs[j]? = some v -> w.cell? ⟨p, o + j, none⟩ = some v := by
 unfold rdN at h
 split at h
 ·rename_i old hc
  obtain ⟨vs, h1, h2⟩ := hR.at hs hc (by simp)
  obtain ⟨h3, h4, _⟩ := (h1.drop (n := o)).take h
  refine ⟨_, by rw [ZI2]; omega, h3, fun j v hj => ?_⟩
  have hlt := (List.getElem?_eq_some_iff.1 hj).1
  rw [List.getElem?_take_of_lt (by simp at hlt; omega), ZJp] at hj
  exact (h2.cell hj).1
 ·rename_i l x hc
  obtain ⟨h1, h⟩ := ZdN h
  have h1 : o + m <= l := by simpa [Nat.ble_eq] using h1
  cases h
  have h2 := hR.at hs hc (by simp)
  refine ⟨_, by rw [ZJa, Zw], Zla σ m (x / pw o), fun j v hj => ?_⟩
  have hlt := (List.getElem?_eq_some_iff.1 hj).1
  rw [ZJa, Zw] at hlt
  refine (Row.cell h2 ?_).1
  rw [ZIW, Zcm _ _ _ hlt] at hj
  rw [ZIW, Zcm _ _ _ (by omega), <- Zqz]; exact hj
 ·cases h
end
end Go.Cx
namespace Go.Cx
open Go.RowKit (Below)
section
variable {P : Program} {w0 : World} {σ : Sg} {hp : H} {n : Nat} {w : World} {fr : F} {ev : Operand -> Value} {k : CV -> Res} {φ : Out -> Prop}
def QR (P : Program) (σ : Sg) (w : World) (s : Sem Value) (k : CV -> Res) (φ : Out -> Prop) : Prop := ∃ c v, s.run P w = .ok v w /\ VR σ c v /\ Zz (k c) φ
theorem ZIh (hR : Rel w0 σ hp n w) (hL : ∀ x, VR σ (lk fr x) (ev x)) {t : Nat} {a : Operand} (h : Zz (ZCC P fr hp t a k) φ) : QR P σ w (Instr.loadAt t (ev a)) k φ := by
 unfold ZCC at h
 have ha := hL a
 split at h
 ·rename_i b o he
  rw [he] at ha
  simp only [VR] at ha
  obtain ⟨p, u, hs, hv⟩ := ha
  have e : Instr.loadAt t (ev a) = loadVar t ⟨p, o, none⟩ := by rw [hv]; rfl
  split at h
  ·rename_i m hA
   obtain ⟨d, h1, h2, h3⟩ := Zdh hA
   split at h
   ·rename_i cs hc
    obtain ⟨vs, g1, g2, g3⟩ := Zmr hR hc hs
    exact ⟨_, _, by rw [e]; exact ZhH h1 h2 h3 g1 g3, by simp only [VR]; exact ⟨vs, g2, rfl⟩, h⟩
   ·exact h.no.elim
  ·rename_i m hA
   obtain ⟨d, h1, h2, h3⟩ := Zdh hA
   split at h
   ·rename_i c hc
    obtain ⟨v, g1, g2⟩ := Zmv hR hc hs
    exact ⟨_, _, by rw [e]; exact ZgW h1 h2 g1, g2, h⟩
   ·exact h.no.elim
  ·exact h.no.elim
 ·exact h.no.elim
theorem ZIM (hL : ∀ x, VR σ (lk fr x) (ev x)) {c a b : Operand} (h : Zz (ZDu fr c a b k) φ) : ∃ cv v, (do pure (Next.value (if <- asBool (ev c) then ev a else ev b)) : Sem Next).run P w = .ok (.value v) w /\ VR σ cv v /\ Zz (k cv) φ := by
 unfold ZDu at h
 have hc := hL c
 split at h
 ·rename_i he; rw [he] at hc; simp only [VR] at hc
  exact ⟨_, _, by rw [hc]; rfl, hL a, h⟩
 ·rename_i he; rw [he] at hc; simp only [VR] at hc
  exact ⟨_, _, by rw [hc]; rfl, hL b, h⟩
 ·exact h.no.elim
/-! ### Numbers -/
theorem ZcF {a b : IntKind} (h : kn a = kn b) : a = b := by cases a <;> cases b <;> first | rfl | (simp [kn] at h)
theorem Zkz (k : IntKind) : kc (kn k) = k := by cases k <;> rfl
theorem kc_lt (k : Nat) : ∃ j, j <= 7 /\ kc k = kc j /\ hiN k = hiN j /\ loN k = loN j := by
 by_cases h : k <= 7
 ·exact ⟨k, h, rfl, rfl, rfl⟩
 ·refine ⟨7, ZIQ _, ?_, ?_, ?_⟩ <;> (obtain ⟨m, rfl⟩ : ∃ m, k = m + 8 := ⟨k - 8, by omega⟩) <;> rfl
theorem Zcg (k : Nat) (x : Int) : Zj5 k x = (kc k).wrap x := by
 unfold Zj5
 cases hf : fits k x
 ·rfl
 simp only [cond_true]
 obtain ⟨j, hj, e1, e2, e3⟩ := kc_lt k
 have hf' : fits j x = true := by unfold fits at *; rw [<- e2, <- e3]; exact hf
 rw [e1]
 have hj' : j = 0 \/ j = 1 \/ j = 2 \/ j = 3 \/ j = 4 \/ j = 5 \/ j = 6 \/ j = 7 := by omega
 have hb : -(loN j : Int) <= x /\ x <= (hiN j : Int) := by
  unfold fits at hf'
  cases x with
  | ofNat m => have := ZJd hf'; simp; omega
  | negSucc m =>
   have : m < loN j := by simpa [Nat.blt_eq] using hf'
   omega
 rcases hj' with rfl | rfl | rfl | rfl | rfl | rfl | rfl | rfl <;> simp only [loN, hiN, kc] at hb ⊢ <;> simp [IntKind.wrap, IntKind.bits, IntKind.signed] <;> omega
theorem ZbK {a b : Int} : ibq a b = (a == b) := by
 cases a with
 | ofNat a => cases b with
  | ofNat b =>
   simp only [ibq]
   by_cases h : a = b
   ·subst h; simp
   ·rw [show Nat.beq a b = false by cases hb : Nat.beq a b; rfl; exact absurd (ZI1 hb) h]; symm; simp; omega
  | negSucc b => rfl
 | negSucc a => cases b with
  | ofNat b => rfl
  | negSucc b =>
   simp only [ibq]
   by_cases h : a = b
   ·subst h; simp
   ·rw [show Nat.beq a b = false by cases hb : Nat.beq a b; rfl; exact absurd (ZI1 hb) h]; simp [h]
theorem ZhA (op : BinOp) (t : TypeId) (k : IntKind) (a b : Int) (h1 : op ≠ .shl) (h2 : op ≠ .shr) : binOp op t (.int k a) (.int k b) =
  (match op with
  | .add | .sub | .mul => Op.intArith op k a b
  | .quo | .rem => Op.intDiv op k a b
  | .and | .or | .xor | .andNot => Op.intBits op k a b
  | _ => Op.intCmp op a b) := by
 cases op <;> first | exact absurd rfl h1 | exact absurd rfl h2 | simp [binOp]
def Zft : Value -> Bool | .nilIface | .agg _ => false | _ => true
theorem Zcf (op : BinOp) (t : TypeId) (x y : Operand) (a b : Value) (h : Zft a = true) : eqGuard op t x y a b = pure () := by
 cases op <;> try rfl
 all_goals (cases a <;> first | rfl | (simp [Zft] at h))
theorem Yd {op : BinOp} {t : TypeId} {x y : Operand} {a b v : Value} {w w' : World} (h : Zft a = true) (hr : (binOp op t a b).run P w = .ok v w') :
  (do eqGuard op t x y a b; binOp op t a b : Sem Value).run P w = .ok v w' := by
 rw [Zcf op t x y a b h]; exact hr
theorem q_int (t : TypeId) {op : BinOp} {kd : Nat} {a b : Int} (h1 : op ≠ .shl) (h2 : op ≠ .shr) (h : Zz (ZBT op kd a b k) φ) : QR P σ w (binOp op t (.int (kc kd) a) (.int (kc kd) b)) k φ := by
 have mk : ∀ (v : Int), Zz (k (.int kd v)) φ -> (binOp op t (.int (kc kd) a) (.int (kc kd) b)).run P w = .ok (.int (kc kd) v) w -> QR P σ w (binOp op t (.int (kc kd) a) (.int (kc kd) b)) k φ :=
  fun v hk hr => ⟨_, _, hr, by simp only [VR], hk⟩
 have mkb : ∀ (v : Bool), Zz (k (.bool v)) φ -> (binOp op t (.int (kc kd) a) (.int (kc kd) b)).run P w = .ok (.bool v) w -> QR P σ w (binOp op t (.int (kc kd) a) (.int (kc kd) b)) k φ :=
  fun v hk hr => ⟨_, _, hr, by simp only [VR], hk⟩
 rw [ZhA op t _ a b h1 h2] at mk mkb ⊢
 cases op <;> simp only [ZBT] at h <;> first | exact h.no.elim | skip
 case add => rw [Zcg] at h; exact mk _ h rfl
 case sub => rw [Zcg] at h; exact mk _ h rfl
 case mul => rw [Zcg] at h; exact mk _ h rfl
 case quo =>
  cases hb : ibq b 0
  ·rw [hb] at h; simp only [cond_false] at h
   rw [ZbK] at hb; have : b ≠ 0 := by simpa using hb
   rw [Zcg] at h; exact mk _ h (by simp [Op.intDiv, this])
  ·rw [hb] at h; exact h.no.elim
 case rem =>
  cases hb : ibq b 0
  ·rw [hb] at h; simp only [cond_false] at h
   rw [ZbK] at hb; have : b ≠ 0 := by simpa using hb
   exact mk _ h (by simp [Op.intDiv, this])
  ·rw [hb] at h; exact h.no.elim
 case and => exact mk _ h rfl
 case or => exact mk _ h rfl
 case xor => exact mk _ h rfl
 case andNot => exact mk _ h rfl
 case eql => rw [ZbK] at h; exact mkb _ h rfl
 case neq => rw [ZbK] at h; exact mkb _ h rfl
 case lss => exact mkb _ h rfl
 case leq => exact mkb _ h rfl
 case gtr => exact mkb _ h rfl
 case geq => exact mkb _ h rfl
theorem q_sh (t : TypeId) {op : BinOp} {kd kd' : Nat} {a b : Int} (ho : op = .shl \/ op = .shr) (h : Zz (shOp op kd a b k) φ) : QR P σ w (binOp op t (.int (kc kd) a) (.int (kc kd') b)) k φ := by
 unfold shOp at h
 split at h
 ·exact h.no.elim
 ·rename_i m
  have hneg : ¬ ((Int.ofNat m) < 0) := by simp
  rcases ho with rfl | rfl
  ·simp only at h; rw [Zcg] at h
   exact ⟨_, _, by simp only [binOp, Op.shift]; rw [if_neg hneg]; rfl, by simp only [VR]; rfl, h⟩
  ·simp only at h
   exact ⟨_, _, by simp only [binOp, Op.shift]; rw [if_neg hneg]; rfl, by simp only [VR]; rfl, h⟩
/-! ### Texts -/
theorem Z4 (a : List UInt8) : (⟨a.toArray⟩ : ByteArray).toList = a := by rw [ByteArray.toList_eq]
theorem ZgP (l n l' n' : Nat) : (bif Nat.beq l l' then Nat.beq (n % pw l) (n' % pw l) else false) = (bys l n == bys l' n') := by
 cases hl : Nat.beq l l'
 ·have : l ≠ l' := fun e => by rw [e, Nat.beq_refl] at hl; cases hl
  simp only [cond_false]
  have hne : bys l n ≠ bys l' n' := fun e => this (by have := congrArg List.length e; rwa [Zw, Zw] at this)
  simp [hne]
 ·have := ZI1 hl; subst this
  simp only [cond_true]
  by_cases h : n % pw l = n' % pw l
  ·rw [h, (ZiV l n n').2 h]; simp
  ·have hb : Nat.beq (n % pw l) (n' % pw l) = false := by cases hb : Nat.beq (n % pw l) (n' % pw l); rfl; exact absurd (ZI1 hb) h
   have hne : bys l n ≠ bys l n' := fun e => h ((ZiV l n n').1 e)
   rw [hb]; simp [hne]
theorem Zd9 : ∀ (l l' n n' : Nat), Zad l l' n n' = Op.bytesLess (bys l n) (bys l' n')
 | 0, 0, _, _ => by simp [Zad, bys, Op.bytesLess]
 | _ + 1, 0, _, _ => by simp [Zad, bys, Op.bytesLess]
 | 0, _ + 1, _, _ => by simp [Zad, bys, Op.bytesLess]
 | l + 1, l' + 1, n, n' => by
  simp only [Zad, bys, Op.bytesLess]
  have h1 : n % 256 < 256 := Nat.mod_lt _ (by decide)
  have h2 : n' % 256 < 256 := Nat.mod_lt _ (by decide)
  have e1 : (UInt8.ofNat (n % 256)).toNat = n % 256 := by simp
  have e2 : (UInt8.ofNat (n' % 256)).toNat = n' % 256 := by simp
  have elt : (decide (UInt8.ofNat (n % 256) < UInt8.ofNat (n' % 256))) = Nat.blt (n % 256) (n' % 256) := by
   rw [Bool.eq_iff_iff, decide_eq_true_iff, Nat.blt_eq, UInt8.lt_iff_toNat_lt, e1, e2]
  have eeq : (UInt8.ofNat (n % 256) == UInt8.ofNat (n' % 256)) = Nat.beq (n % 256) (n' % 256) := by
   rw [Bool.eq_iff_iff, beq_iff_eq, Nat.beq_eq, <- UInt8.toNat_inj, e1, e2]
  rw [elt, eeq, <- Zd9 l l' (n / 256) (n' / 256)]
  cases Nat.blt (n % 256) (n' % 256) <;> cases Nat.beq (n % 256) (n' % 256) <;> rfl
theorem Zj7 : ∀ (x y : List UInt8), (Op.bytesLess x y || (x == y)) = !Op.bytesLess y x
 | [], [] => rfl
 | [], _ :: _ => by simp [Op.bytesLess]
 | _ :: _, [] => by simp [Op.bytesLess]
 | a :: x, b :: y => by
  have ih := Zj7 x y
  simp only [Op.bytesLess]
  rcases Nat.lt_trichotomy a.toNat b.toNat with h | h | h
  ·have h1 : a < b := UInt8.lt_iff_toNat_lt.2 h
   have h2 : ¬ b < a := fun h' => by have := UInt8.lt_iff_toNat_lt.1 h'; omega
   have h3 : (b == a) = false := by simp; intro e; subst e; omega
   simp [h1, h2, h3]
  ·have e : a = b := UInt8.toNat_inj.1 h
   subst e
   have h2 : ¬ a < a := fun h' => by have := UInt8.lt_iff_toNat_lt.1 h'; omega
   simp only [h2, decide_false, beq_self_eq_true, Bool.true_and, Bool.false_or]
   rw [<- ih]; simp
  ·have h1 : b < a := UInt8.lt_iff_toNat_lt.2 h
   have h2 : ¬ a < b := fun h' => by have := UInt8.lt_iff_toNat_lt.1 h'; omega
   have h3 : a ≠ b := fun e => by subst e; omega
   simp [h1, h2, h3]
theorem q_str (t : TypeId) {op : BinOp} {l m l' m' : Nat} (h : Zz (ZFg op l m l' m' k) φ) : QR P σ w (binOp op t (.string ⟨(bys l m).toArray⟩) (.string ⟨(bys l' m').toArray⟩)) k φ := by
 have mkb : ∀ (v : Bool), Zz (k (.bool v)) φ -> (binOp op t (.string ⟨(bys l m).toArray⟩) (.string ⟨(bys l' m').toArray⟩)).run P w = .ok (.bool v) w -> QR P σ w (binOp op t (.string ⟨(bys l m).toArray⟩) (.string ⟨(bys l' m').toArray⟩)) k φ :=
  fun v hk hr => ⟨_, _, hr, by simp only [VR], hk⟩
 unfold ZFg at h
 cases op <;> simp only at h <;> first | exact h.no.elim | skip
 case add =>
  obtain ⟨hz, h⟩ := h.bif
  refine ⟨_, .string ⟨(bys (l + l') (Zkw l m m')).toArray⟩, ?_, by simp only [VR], h⟩
  simp only [binOp, Op.stringOp, ByteArray.size, List.size_toArray, Zw]
  rw [if_neg (by have := ZJd hz; simp [IntKind.max, IntKind.signed, IntKind.bits]; omega)]
  have : (⟨(bys l m).toArray⟩ : ByteArray) ++ ⟨(bys l' m').toArray⟩ = ⟨(bys (l + l') (Zkw l m m')).toArray⟩ := by
   apply ByteArray.ext
   rw [ByteArray.data_append, <- Zfl]; simp
  rw [this]; rfl
 case eql => rw [ZgP] at h; exact mkb _ h (by simp only [binOp, Op.stringOp, Z4]; rfl)
 case neq => rw [ZgP] at h; exact mkb _ h (by simp only [binOp, Op.stringOp, Z4]; rfl)
 case lss => rw [Zd9] at h; exact mkb _ h (by simp only [binOp, Op.stringOp, Z4]; rfl)
 case geq => rw [Zd9] at h; exact mkb _ h (by simp only [binOp, Op.stringOp, Z4]; rfl)
 case gtr => rw [Zd9] at h; refine mkb _ h ?_; simp only [binOp, Op.stringOp, Z4]; rw [Zj7, ZIY]; rfl
 case leq => rw [Zd9] at h; refine mkb _ h ?_; simp only [binOp, Op.stringOp, Z4]; rw [Zj7]; rfl
end
end Go.Cx
namespace Go.Cx
open Go.RowKit (Below)
section
variable {P : Program}
theorem Zch {s : TypeId} {fs : Array Field} {f : Nat} {fd : Field} {n : Nat} (hs : P.underlying s = some (.struct fs)) (hf : fs[f]? = some fd) (hn : Zjq P fd.type = some (n + 1)) (b o : Nat) (w : World) :
  (Instr.fieldAt s (.pointer (some ⟨b, o, none⟩)) f).run P w = .ok (.pointer (some ⟨b, o + fd.offset, none⟩)) w := by
 obtain ⟨i, hi, hsz⟩ := Zew hn
 simp [Instr.fieldAt, run_underlying hs, hf, Instr.sureAddr, fieldPlace, sizeOf, typeInfo, hi, hsz, add_eq]
theorem Zi {k : IntKind} {n : Int} {y : Nat} {code : BoundsCode} (h0 : 0 <= n) (h1 : n <= y) (w : World) : (Instr.sliceBound (.int k n) y code).run P w = .ok n.toNat w := by
 simp [Instr.sliceBound, asIntOf, h0, h1]
theorem YV {lo hi mx : Option Value} {l h m : Nat} {len cap : Nat} {b : Bool} {k1 k2 k3 : IntKind} {x1 x2 x3 : Int}
  (hm : (mx = none /\ m = cap) \/ (mx = some (.int k3 x3) /\ 0 <= x3 /\ x3 <= cap /\ m = x3.toNat))
  (hh : (hi = none /\ mx = none /\ h = len) \/ (hi = some (.int k2 x2) /\ 0 <= x2 /\ x2 <= m /\ h = x2.toNat))
  (hl : (lo = none /\ l = 0) \/ (lo = some (.int k1 x1) /\ 0 <= x1 /\ x1 <= h /\ l = x1.toNat)) (w : World) :
  (Instr.sliceBounds b len cap lo hi mx).run P w = .ok (l, h, m) w := by
 unfold Instr.sliceBounds
 rcases hm with ⟨rfl, rfl⟩ | ⟨rfl, m1, m2, rfl⟩
 ·rcases hh with ⟨rfl, _, rfl⟩ | ⟨rfl, h1, h2, rfl⟩
  ·rcases hl with ⟨rfl, rfl⟩ | ⟨rfl, l1, l2, rfl⟩
   ·rfl
   ·simp [Zi l1 l2]
  ·rcases hl with ⟨rfl, rfl⟩ | ⟨rfl, l1, l2, rfl⟩
   ·simp [Zi h1 h2]
   ·simp [Zi h1 h2, Zi l1 l2]
 ·rcases hh with ⟨rfl, hc, rfl⟩ | ⟨rfl, h1, h2, rfl⟩
  ·cases hc
  ·rcases hl with ⟨rfl, rfl⟩ | ⟨rfl, l1, l2, rfl⟩
   ·simp [Zi m1 m2, Zi h1 h2]
   ·simp [Zi m1 m2, Zi h1 h2, Zi l1 l2]
theorem Zv {t : TypeId} {i : TypeInfo} {z : Value} (hi : P.info? t = some i) (hz : i.zero = some z) (w : World) : (zeroValue t).run P w = .ok z w := by
 simp [zeroValue, typeInfo, hi, hz]
variable {w0 : World} {σ : Sg} {hp : H} {n : Nat} {w : World} {fr : F} {ev : Operand -> Value} {k : CV -> Res} {φ : Out -> Prop}
theorem Zis {t off : Nat} {cs : List CV} {vs : List Value} (hv : VRs σ cs vs) (h : Zz (Go.Cx.part P t cs off k) φ) : QR P σ w (Go.part t vs.toArray off) k φ := by
 unfold Go.Cx.part at h
 have e : Go.part t vs.toArray off = (isAgg t).bind (fun x => if x then ((sizeOf t).bind fun k => Sem.pure (Value.agg (vs.toArray.extract off (off + k)))) else match vs.toArray[off]? with | some v => Sem.pure v | none => stuck "part: no such cell") := by
  unfold Go.part; rfl
 split at h
 ·rename_i m hA
  obtain ⟨d, h1, h2, h3⟩ := Zdh hA
  split at h
  ·rename_i r hr
   obtain ⟨g1, g2, g3⟩ := (hv.drop (n := off)).take hr
   refine ⟨_, .agg ((vs.drop off).take m).toArray, ?_, by simp only [VR]; exact ⟨_, g1, rfl⟩, h⟩
   rw [e, Sem.run_bind', Zek h1, h2]
   simp only [Result.andThen, if_true]
   rw [Sem.run_bind', YZ h3]
   simp [Result.andThen, Sem.run, List.extract_eq_take_drop]
  ·exact h.no.elim
 ·rename_i m hA
  obtain ⟨d, h1, h2, h3⟩ := Zdh hA
  split at h
  ·rename_i c hc
   obtain ⟨y, g1, g2⟩ := hv.get hc
   refine ⟨_, y, ?_, g2, h⟩
   rw [e, Sem.run_bind', Zek h1, h2]
   simp [Result.andThen, Sem.run, g1]
  ·exact h.no.elim
 ·exact h.no.elim
theorem ZyM (hL : ∀ x, VR σ (lk fr x) (ev x)) {s f : Nat} {x : Operand} (h : Zz (Zpc P fr s x f k) φ) : QR P σ w (Instr.fieldAt s (ev x) f) k φ := by
 unfold Zpc at h
 have hx := hL x
 split at h
 ·rename_i b o he
  rw [he] at hx; simp only [VR] at hx
  obtain ⟨p, t, hs, hv⟩ := hx
  split at h
  ·rename_i fs hd
   split at h
   ·rename_i fd hf
    rw [ZdF, ZIP] at hf
    split at h
    ·rename_i m hm
     exact ⟨_, _, by rw [hv]; exact Zch (Zd hd) hf hm p o w, by simp only [VR]; exact ⟨p, t, hs, rfl⟩, h⟩
    ·exact h.no.elim
   ·exact h.no.elim
  ·exact h.no.elim
 ·exact h.no.elim
theorem ZDB (hL : ∀ x, VR σ (lk fr x) (ev x)) {t f : Nat} {x : Operand} (h : Zz (ZxT P fr t x f k) φ) : QR P σ w (Instr.field t (ev x) f) k φ := by
 unfold ZxT at h
 have hx := hL x
 split at h
 ·rename_i cs he
  rw [he] at hx; simp only [VR] at hx
  obtain ⟨vs, hvs, hv⟩ := hx
  split at h
  ·rename_i fs hd
   split at h
   ·rename_i fd hf
    rw [ZdF, ZIP] at hf
    obtain ⟨c, v, h1, h2, h3⟩ := Zis (P := P) (w := w) hvs h
    exact ⟨c, v, by rw [hv]; simp [Instr.field, run_underlying (Zd hd), hf, asAgg, h1], h2, h3⟩
   ·exact h.no.elim
  ·exact h.no.elim
 ·exact h.no.elim
theorem ZlS (hL : ∀ x, VR σ (lk fr x) (ev x)) {x : Operand} {kd : Nat} {i : Int} (h : lk fr x = .int kd i) : ev x = .int (kc kd) i := by
 have := hL x; rw [h] at this; simpa only [VR] using this
theorem Zz8 (hL : ∀ x, VR σ (lk fr x) (ev x)) {t : Nat} {x ix : Operand} (h : Zz (ZnM P fr t x ix k) φ) : QR P σ w (Instr.indexAt t (ev x) (ev ix)) k φ := by
 unfold ZnM at h
 split at h
 ·rename_i kd i hi
  have hiv := ZlS hL hi
  have hx := hL x
  split at h
  ·rename_i b o s l kk ex he
   rw [he] at hx; simp only [VR] at hx
   obtain ⟨p, u, o', c, hs, hv, hlk, hkc, hex, ho, hle, heq⟩ := hx
   split at h
   ·rename_i e hd
    obtain ⟨hil, h⟩ := h.bif
    have hil : i < l := by simpa [Nat.blt_eq] using hil
    split at h
    ·rename_i m hm
     obtain ⟨hsm, h⟩ := h.bif
     have hsm := ZI1 hsm
     have ho' : o' = o := ho (.inl (by omega))
     subst ho'
     refine ⟨_, .pointer (some ⟨p, o' + i * s, none⟩), ?_, by simp only [VR]; exact ⟨p, u, hs, rfl⟩, h⟩
     rw [hv, hiv]
     simp [Instr.indexAt, asIntOf, run_underlying (Zd hd), YZ hm, add_eq, hil, hsm]
    ·exact h.no.elim
   ·exact h.no.elim
  ·rename_i b o he
   rw [he] at hx; simp only [VR] at hx
   obtain ⟨p, u, hs, hv⟩ := hx
   split at h
   ·rename_i m e hd
    obtain ⟨hil, h⟩ := h.bif
    have hil : i < m := by simpa [Nat.blt_eq] using hil
    split at h
    ·rename_i z hz
     refine ⟨_, .pointer (some ⟨p, o + i * (z + 1), none⟩), ?_, by simp only [VR]; exact ⟨p, u, hs, rfl⟩, h⟩
     rw [hv, hiv]
     simp [Instr.indexAt, asIntOf, run_underlying (Zd hd), YZ hz, add_eq, Instr.sureAddr, hil]
    ·exact h.no.elim
   ·exact h.no.elim
  ·exact h.no.elim
 ·exact h.no.elim
theorem Zlc (l n i : Nat) (h : i < l) : (⟨(bys l n).toArray⟩ : ByteArray)[i]? = some (UInt8.ofNat (ZkE n i)) := by
 have hlt' : i < (⟨(bys l n).toArray⟩ : ByteArray).size := by simpa [ByteArray.size, Zw] using h
 rw [getElem?_pos (⟨(bys l n).toArray⟩ : ByteArray) i hlt']
 have := Zcm l n i h
 rw [ZI3 (by rw [Zw]; exact h)] at this
 exact this
theorem Zqg (x : Nat) (h : x < 256) : (UInt8.ofNat x).toNat = x := by simp; omega
theorem ZDs (hL : ∀ x, VR σ (lk fr x) (ev x)) {t : Nat} {x ix : Operand} (h : Zz (ZsY P fr t x ix k) φ) : QR P σ w (Instr.index t (ev x) (ev ix)) k φ := by
 unfold ZsY at h
 split at h
 ·rename_i kd i hi
  have hiv := ZlS hL hi
  have hx := hL x
  split at h
  ·rename_i l m he
   rw [he] at hx; simp only [VR] at hx
   split at h
   ·rename_i hd
    obtain ⟨hil, h⟩ := h.bif
    have hil : i < l := by simpa [Nat.blt_eq] using hil
    refine ⟨_, .int .u8 (ZkE m i : Nat), ?_, by simp only [VR]; rfl, h⟩
    rw [hx, hiv]
    have hg := Zlc l m i hil
    simp [Instr.index, asIntOf, run_underlying (Zd hd), hg, Zqg _ (ZjT m i)]
   ·exact h.no.elim
  ·rename_i cs he
   rw [he] at hx; simp only [VR] at hx
   obtain ⟨vs, hvs, hv⟩ := hx
   split at h
   ·rename_i m e hd
    obtain ⟨hil, h⟩ := h.bif
    have hil : i < m := by simpa [Nat.blt_eq] using hil
    split at h
    ·rename_i s hs
     obtain ⟨c, v, h1, h2, h3⟩ := Zis (P := P) (w := w) hvs h
     exact ⟨c, v, by rw [hv, hiv]; simp [Instr.index, asIntOf, run_underlying (Zd hd), hil, YZ hs, h1], h2, h3⟩
    ·exact h.no.elim
   ·exact h.no.elim
  ·exact h.no.elim
 ·exact h.no.elim
/-! ### Slices of slices -/
theorem ZeA (hL : ∀ x, VR σ (lk fr x) (ev x)) {o : Option Operand} {r : Option Nat} (h : ZBr fr o = some r) : (r = none /\ o.map ev = none) \/ ∃ kd m, r = some m /\ o.map ev = some (.int (kc kd) (m : Int)) := by
 unfold ZBr at h
 split at h
 ·cases h; exact .inl ⟨rfl, rfl⟩
 ·rename_i x
  split at h
  ·rename_i kd m he
   cases h
   exact .inr ⟨kd, m, rfl, by simp [ZlS hL he]⟩
  ·cases h
theorem ZdR (l n a b : Nat) (h : b <= l) (h2 : a <= b) : (⟨(bys l n).toArray⟩ : ByteArray).extract a b = ⟨(bys (b - a) (Zn7 n a (b - a))).toArray⟩ := by
 apply ByteArray.ext
 rw [ByteArray.data_extract, <- Znh l n a (b - a) (by omega)]
 simp [List.extract_eq_take_drop]
theorem Zp9 (hL : ∀ x, VR σ (lk fr x) (ev x)) {lo hi mx : Option Operand} {rl rh rm : Option Nat} (h1 : ZBr fr lo = some rl) (h2 : ZBr fr hi = some rh) (h3 : ZBr fr mx = some rm) (b : Bool) {len cap : Nat}
  (hm : orN cap rm <= cap) (hh : orN len rh <= orN cap rm) (hl : orN 0 rl <= orN len rh) (hmh : rm = none \/ rh ≠ none) (w : World) :
  (Instr.sliceBounds b len cap (lo.map ev) (hi.map ev) (mx.map ev)).run P w = .ok (orN 0 rl, orN len rh, orN cap rm) w := by
 have k3 := ZeA hL h3
 have k2 := ZeA hL h2
 have k1 := ZeA hL h1
 obtain ⟨kd3, x3, H3⟩ : ∃ (kd3 : IntKind) (x3 : Int), (mx.map ev = none /\ orN cap rm = cap) \/ (mx.map ev = some (.int kd3 x3) /\ 0 <= x3 /\ x3 <= cap /\ orN cap rm = x3.toNat) := by
  rcases k3 with ⟨rfl, e⟩ | ⟨kd, m, rfl, e⟩
  ·exact ⟨.i64, 0, .inl ⟨e, rfl⟩⟩
  ·exact ⟨_, _, .inr ⟨e, by omega, by simp only [orN] at hm; omega, by simp [orN]⟩⟩
 obtain ⟨kd2, x2, H2⟩ : ∃ (kd2 : IntKind) (x2 : Int), (hi.map ev = none /\ mx.map ev = none /\ orN len rh = len) \/ (hi.map ev = some (.int kd2 x2) /\ 0 <= x2 /\ x2 <= ((orN cap rm : Nat) : Int) /\ orN len rh = x2.toNat) := by
  rcases k2 with ⟨rfl, e⟩ | ⟨kd, m, rfl, e⟩
  ·refine ⟨.i64, 0, .inl ⟨e, ?_, rfl⟩⟩
   rcases hmh with rfl | hc
   ·rcases k3 with ⟨_, e3⟩ | ⟨_, _, hc, _⟩
    ·exact e3
    ·cases hc
   ·exact absurd rfl hc
  ·exact ⟨_, _, .inr ⟨e, by omega, by simp only [orN] at hh ⊢; omega, by simp [orN]⟩⟩
 obtain ⟨kd1, x1, H1⟩ : ∃ (kd1 : IntKind) (x1 : Int), (lo.map ev = none /\ orN 0 rl = 0) \/ (lo.map ev = some (.int kd1 x1) /\ 0 <= x1 /\ x1 <= ((orN len rh : Nat) : Int) /\ orN 0 rl = x1.toNat) := by
  rcases k1 with ⟨rfl, e⟩ | ⟨kd, m, rfl, e⟩
  ·exact ⟨.i64, 0, .inl ⟨e, rfl⟩⟩
  ·exact ⟨_, _, .inr ⟨e, by omega, by simp only [orN] at hl ⊢; omega, by simp [orN]⟩⟩
 exact YV H3 H2 H1 w
theorem ZCo (hL : ∀ x, VR σ (lk fr x) (ev x)) {t : Nat} {x : Operand} {lo hi mx : Option Operand} (h : Zz (ZvC P fr t x lo hi mx k) φ) : QR P σ w (Instr.sliceAt t (ev x) (lo.map ev) (hi.map ev) (mx.map ev)) k φ := by
 unfold ZvC at h
 split at h
 ·exact h.no.elim
 rename_i rl e1
 split at h
 ·exact h.no.elim
 rename_i rh e2
 split at h
 ·exact h.no.elim
 rename_i rm e3
 have hx := hL x
 split at h
 ·-- text
  rename_i l m he
  rw [he] at hx; simp only [VR] at hx
  split at h
  ·rename_i hd
   split at h
   ·obtain ⟨g1, h⟩ := h.bif
    obtain ⟨g2, h⟩ := h.bif
    have g1 := ZJd g1
    have g2 := ZJd g2
    refine ⟨_, .string ⟨(bys (orN l rh - orN 0 rl) (Zn7 m (orN 0 rl) (orN l rh - orN 0 rl))).toArray⟩, ?_, by simp only [VR], h⟩
    have hmx : mx.map ev = none := by
     rcases ZeA hL e3 with ⟨_, e⟩ | ⟨_, _, hc, _⟩
     ·exact e
     ·cases hc
    have hb := Zp9 (P := P) hL e1 e2 e3 false (len := l) (cap := l) (by simp [orN]) (by simpa [orN] using g1) g2 (.inl rfl) w
    rw [hmx] at hb ⊢
    have hsz : (⟨(bys l m).toArray⟩ : ByteArray).size = l := by simp [ByteArray.size, Zw]
    rw [hx]
    have ea : (Instr.sliceAt t (.string ⟨(bys l m).toArray⟩) (lo.map ev) (hi.map ev) none).run P w = (Instr.slice t (.string ⟨(bys l m).toArray⟩) (lo.map ev) (hi.map ev) none).run P w := by
     unfold Instr.sliceAt; simp [run_underlying (Zd hd)]
    rw [ea]
    simp [Instr.slice, run_underlying (Zd hd), hsz, hb, ZdR l m _ _ g1 g2]
   ·exact h.no.elim
  ·exact h.no.elim
 ·-- nil
  rename_i he
  rw [he] at hx; simp only [VR] at hx
  split at h
  ·rename_i e hd
   split at h
   ·rename_i sz hsz
    split at h
    ·exact h.no.elim
    ·obtain ⟨g1, h⟩ := h.bif
     obtain ⟨g3, h⟩ := h.bif
     have g1 := ZI1 g1
     have g3 := ZI1 g3
     rw [hx]
     have ea : (Instr.sliceAt t (.slice none 0 0) (lo.map ev) (hi.map ev) (mx.map ev)).run P w = (Instr.slice t (.slice none 0 0) (lo.map ev) (hi.map ev) (mx.map ev)).run P w := by
      unfold Instr.sliceAt; simp [run_underlying (Zd hd)]
     have hb := Zp9 (P := P) hL e1 e2 e3 true (len := 0) (cap := 0) (by simp [orN]) (by rw [g1]; simp [orN]) (by omega) (.inl rfl) w
     refine ⟨_, .slice none 0 0, ?_, by simp only [VR], h⟩
     rw [ea]
     rw [g1, g3] at hb
     simp only [orN] at hb
     simp [Instr.slice, run_underlying (Zd hd), hb, YZ hsz]
   ·exact h.no.elim
  ·exact h.no.elim
 ·-- slice
  rename_i b o s l c ex he
  rw [he] at hx; simp only [VR] at hx
  obtain ⟨p, u, o', cc, hs, hv, hlk, hkc, hex, ho, hle, heq⟩ := hx
  split at h
  ·rename_i e hd
   split at h
   ·rename_i sz hsz
    obtain ⟨gs, h⟩ := h.bif
    have gs := ZI1 gs
    subst gs
    have ea : (Instr.sliceAt t (.slice (some ⟨p, o', none⟩) l cc) (lo.map ev) (hi.map ev) (mx.map ev)).run P w = (Instr.slice t (.slice (some ⟨p, o', none⟩) l cc) (lo.map ev) (hi.map ev) (mx.map ev)).run P w := by
     unfold Instr.sliceAt; simp [run_underlying (Zd hd)]
    have run : ∀ L Hh M, (Instr.sliceBounds true l cc (lo.map ev) (hi.map ev) (mx.map ev)).run P w = .ok (L, Hh, M) w →
      (Instr.sliceAt t (ev x) (lo.map ev) (hi.map ev) (mx.map ev)).run P w = .ok (.slice (some ⟨p, if M = L then o' else o' + L * sz, none⟩) (Hh - L) (M - L)) w := by
     intro L Hh M hb
     rw [hv, ea]
     simp [Instr.slice, run_underlying (Zd hd), hb, YZ hsz, add_eq]
     split <;> rfl
    split at h
    ·obtain ⟨g1, h⟩ := h.bif
     obtain ⟨g2, h⟩ := h.bif
     have g1 := ZJd g1
     have g2 := ZJd g2
     have hb := Zp9 (P := P) hL e1 e2 e3 true (len := l) (cap := cc) (by simp [orN]) (by simp only [orN] at g1 ⊢; omega) g2 (.inl rfl) w
     simp only [show orN cc none = cc from rfl] at hb
     refine ⟨_, _, run _ _ _ hb, ?_, h⟩
     simp only [VR]
     refine ⟨p, u, _, _, hs, rfl, by omega, by omega, fun e => by have := hex e; omega, fun hk => ?_, ?_, fun hex0 hk0 => ?_⟩
     ·by_cases hc : cc = orN 0 rl
      ·have hc2 : c = cc /\ ex = true := by
        rcases hk with hk | hk
        ·omega
        ·exact ⟨(hex hk).symm, hk⟩
       rw [if_pos hc]
       have : Nat.beq (orN 0 rl) c = true := by rw [Nat.beq_eq]; omega
       rw [this]; exact ho (.inr hc2.2)
      ·rw [if_neg hc]
       have : Nat.beq (orN 0 rl) c = false := by
        cases hq : Nat.beq (orN 0 rl) c
        ·rfl
        ·have := ZI1 hq
         rcases hk with hk | hk
         ·omega
         ·have := hex hk; omega
       rw [this]; simp only [cond_false]
       rw [ho (hk.elim (fun hk => .inl (by omega)) (fun hk => .inr hk))]
     ·by_cases hc : cc = orN 0 rl
      ·rw [if_pos hc, hc]; simp; have := Nat.zero_le (cc * sz); omega
      ·rw [if_neg hc, Nat.sub_mul]
       have : orN 0 rl * sz <= cc * sz := ZIR _ (by omega)
       omega
     ·have h1 := heq hex0 (by omega)
      rw [if_neg (show ¬ cc = orN 0 rl by omega), Nat.sub_mul]
      have : orN 0 rl * sz <= cc * sz := ZIR _ (by omega)
      omega
    ·rename_i m hrm
     split at h
     ·exact h.no.elim
     ·rename_i hh
      obtain ⟨g0, h⟩ := h.bif
      obtain ⟨g1, h⟩ := h.bif
      obtain ⟨g2, h⟩ := h.bif
      obtain ⟨g3, h⟩ := h.bif
      have g1 := ZJd g1
      have g2 := ZJd g2
      have g3 := ZJd g3
      have hoo : o' = o := ho (by
       cases hq : Nat.ble 1 c
       ·rw [hq] at g0; exact .inr g0
       ·exact .inl (ZJd hq))
      subst hoo
      have hb := Zp9 (P := P) hL e1 e2 e3 true (len := l) (cap := cc) (by simp only [orN]; omega) (by simp only [orN]; omega) (by simp only [orN] at g3 ⊢; omega) (.inr (by simp)) w
      simp only [show orN cc (some m) = m from rfl, show orN l (some hh) = hh from rfl] at hb
      refine ⟨_, _, run _ _ _ hb, ?_, h⟩
      simp only [VR]
      refine ⟨p, u, _, _, hs, rfl, by omega, ZIQ _, fun _ => rfl, fun _ => ?_, ?_, fun e => (by cases e)⟩
      ·by_cases hc : m = orN 0 rl
       ·rw [if_pos hc, show Nat.beq (orN 0 rl) m = true by rw [Nat.beq_eq]; omega]; rfl
       ·rw [if_neg hc, show Nat.beq (orN 0 rl) m = false by cases hq : Nat.beq (orN 0 rl) m; rfl; exact absurd (ZI1 hq).symm hc]; rfl
      ·have q1 : m * sz <= cc * sz := ZIR _ (by omega)
       by_cases hc : m = orN 0 rl
       ·rw [if_pos hc, hc]; simp; omega
       ·rw [if_neg hc, Nat.sub_mul]
        have : orN 0 rl * sz <= m * sz := ZIR _ (by omega)
        omega
   ·exact h.no.elim
  ·exact h.no.elim
 ·exact h.no.elim
end
end Go.Cx
namespace Go.Cx
open Go.RowKit (Below)
section
variable {P : Program} {w0 : World} {σ : Sg} {hp : H} {n : Nat} {w : World} {fr : F} {ev : Operand -> Value} {k : CV -> Res} {φ : Out -> Prop}
/-! ### Constants -/
theorem Zq8 (v : Value) : VR σ (Zpj v) v := by
 unfold Zpj
 split <;> simp only [VR, Zkz]
 rename_i s
 congr 1
 apply ByteArray.ext
 show s.data = _
 rw [Zg9]
theorem Zi2 : ∀ (l : List Value), VRs σ (ZiN l) l
 | [] => by simp only [ZiN, VRs]
 | v :: l => by simp only [ZiN, VRs]; exact ⟨v, l, rfl, Zq8 v, Zi2 l⟩
theorem Zw3 (v : Value) : VR σ (Zzr v) v := by
 unfold Zzr
 split
 ·rename_i cs; simp only [VR]; exact ⟨cs.toList, Zi2 _, by simp⟩
 ·exact Zq8 v
theorem Y6 {t : Nat} {z : List CV} (h : ZnG P t = some z) : ∃ i zv, P.info? t = some i /\ i.zero = some zv /\ VRs σ z zv.cells.toList := by
 unfold ZnG at h
 split at h
 ·rename_i i hi
  split at h
  ·rename_i zv hz; cases h; exact ⟨i, zv, Zaa hi, hz, Zi2 _⟩
  ·cases h
 ·cases h
theorem ZjZ {c : CV} {v : Value} (hj : c ≠ .junk) (h : VR σ c v) : VRs σ (cellsOf c) v.cells.toList := by
 unfold cellsOf
 split
 ·rename_i cs; simp only [VR] at h; obtain ⟨vs, h1, rfl⟩ := h; simpa [Value.cells] using h1
 ·rename_i x hx
  have hc : v.cells = #[v] := by
   cases c <;> simp only [VR] at h
   all_goals first | exact absurd rfl hj | exact absurd rfl (hx _) | (subst h; rfl) | (obtain ⟨_, _, _, rfl⟩ := h; rfl) | (obtain ⟨_, _, rfl⟩ := h; rfl) | (obtain ⟨_, _, _, _, _, rfl, _⟩ := h; rfl) | (obtain ⟨_, _, _, _, rfl⟩ := h; rfl)
  rw [hc]; simp only [VRs]; exact ⟨v, [], rfl, h, rfl⟩
/-! ### Equality -/
theorem Zgs (a b : Bool) : bbq a b = (a == b) := by cases a <;> cases b <;> rfl
theorem Row.obj {p t : Nat} {vs : List Value} (h : Row w p t vs false) : ∃ arr ty, w.heap[p]? = some (.cells arr ty (0, 0)) := by
 obtain ⟨arr, ty, lo, hi, h1, _, _, h4⟩ := h
 rcases h4 with ⟨rfl, rfl⟩ | ⟨hc, _⟩
 ·exact ⟨arr, ty, h1⟩
 ·cases hc
set_option maxHeartbeats 2000000 in
theorem Zc6 (hR : Rel w0 σ hp n w) {t : Nat} {d : TypeDesc} (hd : P.underlying t = some d) {a b : CV} {va vb : Value} (ha : VR σ a va) (hb : VR σ b vb) {r : Bool}
  (h : Zhu hp P d a b = some r) (m : Nat) : (Op.equalIn (m + 1) t va vb).run P w = .ok r w := by
 unfold Zhu at h
 split at h
 ·-- int
  rename_i kd
  split at h
  ·rename_i k x j y
   simp only [VR] at ha hb; subst ha; subst hb
   obtain ⟨h1, h2⟩ := ZdN h
   have := ZI1 h1; subst this
   cases h2
   rw [run_equalIn_int w m t _ _ _ _ hd, ZbK]
  ·cases h
 ·split at h
  ·simp only [VR] at ha hb; subst ha; subst hb; cases h
   rw [run_equalIn_bool w m t _ _ hd, Zgs]
  ·cases h
 ·split at h
  ·simp only [VR] at ha hb; subst ha; subst hb; cases h
   rw [run_equalIn_string w m t _ _ hd, ZgP, Z4, Z4]
  ·cases h
 ·-- pointers
  rename_i e
  split at h
  ·simp only [VR] at ha hb; subst ha; subst hb; cases h
   simp [Op.equalIn, run_underlying hd]
  ·simp only [VR] at ha hb; subst ha; obtain ⟨p, u, _, rfl⟩ := hb; cases h
   simp [Op.equalIn, run_underlying hd]
  ·simp only [VR] at ha hb; subst hb; obtain ⟨p, u, _, rfl⟩ := ha; cases h
   simp [Op.equalIn, run_underlying hd]
  ·rename_i b o b' o'
   split at h
   ·rename_i sz hsz
    simp only [VR] at ha hb; obtain ⟨p, u, hs1, rfl⟩ := ha; obtain ⟨q, v, hs2, rfl⟩ := hb
    have e0 : (Op.equalIn (m + 1) t (.pointer (some ⟨p, o, none⟩)) (.pointer (some ⟨q, o', none⟩))).run P w = (sameAddr ⟨p, o, none⟩ ⟨q, o', none⟩).run P w := by
     simp [Op.equalIn, run_underlying hd, YZ hsz]
    rw [e0]
    cases hbb : Nat.beq b b'
    ·rw [hbb] at h
     simp only [cond_false] at h
     have hne : b ≠ b' := fun e => by rw [e, Nat.beq_refl] at hbb; cases hbb
     split at h
     ·rename_i c1 hc1
      split at h
      ·rename_i c2 hc2
       cases h
       have g1 := hR.at hs1 hc1 (by simp)
       have g2 := hR.at hs2 hc2 (by simp)
       obtain ⟨v1, _, r1⟩ := g1
       obtain ⟨v2, _, r2⟩ := g2
       obtain ⟨a1, t1, o1⟩ := r1.obj
       obtain ⟨a2, t2, o2⟩ := r2.obj
       have hpq : p ≠ q := hR.apart b b' p u q v (hR.old _ _ _ hs1).1 (hR.old _ _ _ hs2).1 (by rw [hc1]; simp) (by rw [hc2]; simp) hne hs1 hs2
       exact run_sameAddr_other w (by intro e; cases e; exact hpq rfl) o1 o2
      ·cases h
     ·cases h
    ·rw [hbb] at h
     have := ZI1 hbb; subst this
     rw [hs1] at hs2; cases hs2
     cases h
     by_cases he : o = o'
     ·subst he; rw [Nat.beq_refl, run_sameAddr_same]
     ·have hf : Nat.beq o o' = false := by cases hq : Nat.beq o o'; rfl; exact absurd (ZI1 hq) he
      rw [hf]; simp [sameAddr, he]
   ·cases h
  ·cases h
 ·split at h
  ·simp only [VR] at ha hb; subst ha; subst hb; cases h
   simp [Op.equalIn, run_underlying hd]
  ·simp only [VR] at ha hb; subst ha; obtain ⟨p, u, o', c, _, rfl, _⟩ := hb; cases h
   simp [Op.equalIn, run_underlying hd]
  ·simp only [VR] at ha hb; subst hb; obtain ⟨p, u, o', c, _, rfl, _⟩ := ha; cases h
   simp [Op.equalIn, run_underlying hd]
  ·cases h
 ·split at h
  ·simp only [VR] at ha hb; subst ha; subst hb; cases h
   simp [Op.equalIn, run_underlying hd]
  ·simp only [VR] at ha hb; subst ha; obtain ⟨p, u, _, rfl⟩ := hb; cases h
   simp [Op.equalIn, run_underlying hd]
  ·simp only [VR] at ha hb; subst hb; obtain ⟨p, u, _, rfl⟩ := ha; cases h
   simp [Op.equalIn, run_underlying hd]
  ·cases h
 ·split at h
  ·simp only [VR] at ha hb; subst ha; subst hb; cases h
   simp [Op.equalIn, run_underlying hd]
  ·simp only [VR] at ha hb; subst ha; obtain ⟨_, _, _, _, rfl⟩ := hb; cases h
   simp [Op.equalIn, run_underlying hd]
  ·simp only [VR] at ha hb; subst ha; obtain ⟨_, _, rfl⟩ := hb; cases h
   simp [Op.equalIn, run_underlying hd]
  ·simp only [VR] at ha hb; subst ha; obtain ⟨_, _, _, rfl⟩ := hb; cases h
   simp [Op.equalIn, run_underlying hd]
  ·simp only [VR] at ha hb; subst hb; obtain ⟨_, _, _, _, rfl⟩ := ha; cases h
   simp [Op.equalIn, run_underlying hd]
  ·simp only [VR] at ha hb; subst hb; obtain ⟨_, _, rfl⟩ := ha; cases h
   simp [Op.equalIn, run_underlying hd]
  ·simp only [VR] at ha hb; subst hb; obtain ⟨_, _, _, rfl⟩ := ha; cases h
   simp [Op.equalIn, run_underlying hd]
  ·cases h
 ·split at h
  ·simp only [VR] at ha hb; subst ha; subst hb; cases h
   simp [Op.equalIn, run_underlying hd]
  ·simp only [VR] at ha hb; subst ha; obtain ⟨_, _, rfl⟩ := hb; cases h
   simp [Op.equalIn, run_underlying hd]
  ·simp only [VR] at ha hb; subst hb; obtain ⟨_, _, rfl⟩ := ha; cases h
   simp [Op.equalIn, run_underlying hd]
  ·rename_i t1 x t2 y
   simp only [VR] at ha hb; obtain ⟨_, _, rfl⟩ := ha; obtain ⟨_, _, rfl⟩ := hb
   cases hq : Nat.beq t1 t2
   ·rw [hq] at h; cases h
    have hne : t1 ≠ t2 := fun e => by rw [e, Nat.beq_refl] at hq; cases hq
    simp [Op.equalIn, run_underlying hd, hne]
   ·rw [hq] at h; cases h
  ·cases h
 ·cases h
theorem Zrd {t : Nat} {d : TypeDesc} (hd : P.underlying t = some d) (ha : ZzY d = false) {vs : List Value} {o : Nat} {v : Value} (h : vs[o]? = some v) : (Go.part t vs.toArray o).run P w = .ok v w := by
 have e : Go.part t vs.toArray o = (isAgg t).bind (fun x => if x then ((sizeOf t).bind fun k => Sem.pure (Value.agg (vs.toArray.extract o (o + k)))) else match vs.toArray[o]? with | some v => Sem.pure v | none => stuck "part: no such cell") := by
  unfold Go.part; rfl
 rw [e, Sem.run_bind', Zek hd, ha]
 simp [Result.andThen, Sem.run, h]
theorem ZfU (hR : Rel w0 σ hp n w) {x y : List CV} {vx vy : List Value} (hx : VRs σ x vx) (hy : VRs σ y vy) (m : Nat) : ∀ (fs : List Field) {r : Bool}, Zq6 hp P x y fs = some r -> (Op.eqFields (m + 1) vx.toArray vy.toArray fs).run P w = .ok r w
 | [], r, h => by cases h; rfl
 | f :: fs, r, h => by
  unfold Zq6 at h
  cases hn : (f.name == "_")
  ·rw [hn] at h; simp only [cond_false] at h
   have hne : f.name ≠ "_" := by simpa using hn
   split at h
   ·rename_i d hd
    have hd := Zd hd
    cases hag : ZzY d
    ·rw [hag] at h; simp only [cond_false] at h
     split at h
     ·rename_i a b hca hcb
      obtain ⟨va, g1, g2⟩ := hx.get hca
      obtain ⟨vb, g3, g4⟩ := hy.get hcb
      have p1 := Zrd (P := P) (w := w) hd hag g1
      have p2 := Zrd (P := P) (w := w) hd hag g3
      split at h
      ·rename_i he
       have e1 := Zc6 hR hd g2 g4 he m
       simp [Op.eqFields, hne, p1, p2, e1, ZfU hR hx hy m fs h]
      ·rename_i he
       cases h
       have e1 := Zc6 hR hd g2 g4 he m
       simp [Op.eqFields, hne, p1, p2, e1]
      ·cases h
     ·cases h
    ·rw [hag] at h; cases h
   ·cases h
  ·rw [hn] at h; cases h
theorem ZdT (hR : Rel w0 σ hp n w) {t : Nat} {a b : CV} {va vb : Value} (ha : VR σ a va) (hb : VR σ b vb) {r : Bool} (h : ZlL P hp t a b = some r) :
  (Op.equal t va vb).run P w = .ok r w /\ (∀ xs ys, va = .agg xs -> vb = .agg ys -> P.eqGuardType P.depth t = false) := by
 unfold ZlL at h
 split at h
 ·rename_i d hd
  have hd := Zd hd
  split at h
  ·rename_i fs _
   split at h
   ·rename_i x y
    obtain ⟨hg, h⟩ := ZdN h
    cases hs : P.stoodInHeld t
    ·rw [hs] at hg; simp only [cond_false, ZIZ] at hg
     simp only [VR] at ha hb; obtain ⟨vx, g1, rfl⟩ := ha; obtain ⟨vy, g2, rfl⟩ := hb
     refine ⟨?_, fun _ _ _ _ => hg⟩
     have hf : P.underlying t = some (.struct (P.fieldsOf t)) := by
      have : P.fieldsOf t = fs := by simp [Program.fieldsOf, hd]
      rw [this]; exact hd
     have hff : P.fieldsOf t = fs := by simp [Program.fieldsOf, hd]
     show (Op.equalIn (9999 + 1) t _ _).run P w = _
     rw [run_equalIn_struct w 9999 t _ _ hf hs, hff]
     exact ZfU hR g1 g2 9998 _ h
    ·rw [hs] at hg; cases hg
   ·cases h
  ·rename_i hns
   refine ⟨Zc6 hR hd ha hb h 9999, fun xs ys e1 e2 => ?_⟩
   subst e1
   exfalso
   cases a <;> simp only [VR] at ha
   all_goals first | (cases ha; done) | (obtain ⟨_, _, _, hc⟩ := ha; cases hc; done) | (obtain ⟨_, _, hc⟩ := ha; cases hc; done) | (obtain ⟨_, _, _, _, _, hc, _⟩ := ha; cases hc; done) | (obtain ⟨_, _, _, _, hc⟩ := ha; cases hc; done) | skip
   all_goals (unfold Zhu at h; cases d <;> simp at h)
 ·cases h
theorem Zir {t : Nat} {a b : CV} {r : Bool} (h : ZlL P hp t a b = some r) : a ≠ .junk /\ b ≠ .junk := by
 unfold ZlL at h
 split at h
 ·rename_i d hd
  split at h
  ·split at h
   ·exact ⟨by simp, by simp⟩
   ·cases h
  ·constructor
   ·rintro rfl; unfold Zhu at h; cases d <;> simp at h
   ·rintro rfl; unfold Zhu at h; cases d <;> cases a <;> simp at h
 ·cases h
theorem Zxz {a : CV} (hj : a ≠ .junk) (ha : VR σ a .nilIface) : a = .nili := by
 cases a <;> simp only [VR] at ha
 all_goals first | rfl | exact absurd rfl hj | (cases ha; done) | (obtain ⟨_, _, _, hc⟩ := ha; cases hc; done) | (obtain ⟨_, _, hc⟩ := ha; cases hc; done) | (obtain ⟨_, _, _, _, _, hc, _⟩ := ha; cases hc; done) | (obtain ⟨_, _, _, _, hc⟩ := ha; cases hc; done)
theorem Ztj {op : BinOp} {t : Nat} {x y : Operand} (h : ZgB x = true \/ ZgB y = true) : (eqGuard op t x y .nilIface .nilIface).run P w = .ok () w := by
 cases op <;> try rfl
 all_goals (cases x <;> cases y <;> first | rfl | (exfalso; rcases h with h | h <;> cases h))
theorem Zpt (hR : Rel w0 σ hp n w) {op : BinOp} {t : Nat} {x y : Operand} {a b : CV} {va vb : Value} (ha : VR σ a va) (hb : VR σ b vb) {r : Bool} (h : ZlL P hp t a b = some r) (ht : Zp2 x y a b = false) :
  (eqGuard op t x y va vb).run P w = .ok () w := by
 have hg := (ZdT hR ha hb h).2
 obtain ⟨j1, j2⟩ := Zir h
 by_cases h1 : va = .nilIface /\ vb = .nilIface
 ·obtain ⟨rfl, rfl⟩ := h1
  have := Zxz j1 ha; subst this
  have := Zxz j2 hb; subst this
  refine Ztj ?_
  unfold Zp2 at ht
  cases hx : ZgB x
  ·rw [hx] at ht; simp only [cond_false] at ht; right; simpa using ht
  ·exact .inl rfl
 ·by_cases h2 : (∃ xs, va = .agg xs) /\ (∃ ys, vb = .agg ys)
  ·obtain ⟨⟨xs, rfl⟩, ⟨ys, rfl⟩⟩ := h2
   exact run_eqGuard_agg w _ t x y _ _ (hg _ _ rfl rfl)
  ·cases op <;> try rfl
   all_goals
    cases va <;> cases vb <;> first | rfl | exact absurd ⟨rfl, rfl⟩ h1 | exact absurd ⟨⟨_, rfl⟩, ⟨_, rfl⟩⟩ h2
theorem ZsU {t : Nat} {va vb : Value} (h : ∀ i j x y, va = .int i x -> vb = .int j y -> False) (h2 : ∀ x y, va = .string x -> vb = .string y -> False)
  (h3 : ∀ i j x y, va = .float i x -> vb = .float j y -> False) (h4 : ∀ i j x y z u, va = .complex i x z -> vb = .complex j y u -> False) :
  binOp .eql t va vb = (do pure (.bool (<- Op.equal t va vb))) /\ binOp .neq t va vb = (do pure (.bool (!(<- Op.equal t va vb)))) := by
 cases va <;> cases vb <;> first | exact ⟨rfl, rfl⟩ | exact (h _ _ _ _ rfl rfl).elim | exact (h2 _ _ rfl rfl).elim | exact (h3 _ _ _ _ rfl rfl).elim | exact (h4 _ _ _ _ _ _ rfl rfl).elim
end
end Go.Cx
namespace Go.Cx
open Go.RowKit (Below)
section
variable {P : Program} {w0 : World} {σ : Sg} {hp : H} {n : Nat} {w : World} {fr : F} {ev : Operand -> Value} {k : CV -> Res} {φ : Out -> Prop}
theorem Zld {a : CV} (hj : a ≠ .junk) {i : IntKind} {x : Int} (ha : VR σ a (.int i x)) : ∃ k, a = .int k x := by
 cases a <;> simp only [VR] at ha
 all_goals first | exact absurd rfl hj | (cases ha; exact ⟨_, rfl⟩) | (cases ha; done) | (obtain ⟨_, _, _, hc⟩ := ha; cases hc; done) | (obtain ⟨_, _, hc⟩ := ha; cases hc; done) | (obtain ⟨_, _, _, _, _, hc, _⟩ := ha; cases hc; done) | (obtain ⟨_, _, _, _, hc⟩ := ha; cases hc; done)
theorem ZlB {a : CV} (hj : a ≠ .junk) {x : ByteArray} (ha : VR σ a (.string x)) : ∃ l m, a = .str l m := by
 cases a <;> simp only [VR] at ha
 all_goals first | exact absurd rfl hj | exact ⟨_, _, rfl⟩ | (cases ha; done) | (obtain ⟨_, _, _, hc⟩ := ha; cases hc; done) | (obtain ⟨_, _, hc⟩ := ha; cases hc; done) | (obtain ⟨_, _, _, _, _, hc, _⟩ := ha; cases hc; done) | (obtain ⟨_, _, _, _, hc⟩ := ha; cases hc; done)
theorem Zn6 {a : CV} (hj : a ≠ .junk) {f : FloatKind} {x : Nat} (ha : VR σ a (.float f x)) : False := by
 cases a <;> simp only [VR] at ha
 all_goals first | exact absurd rfl hj | (cases ha; done) | (obtain ⟨_, _, _, hc⟩ := ha; cases hc; done) | (obtain ⟨_, _, hc⟩ := ha; cases hc; done) | (obtain ⟨_, _, _, _, _, hc, _⟩ := ha; cases hc; done) | (obtain ⟨_, _, _, _, hc⟩ := ha; cases hc; done)
theorem Zi3 {a : CV} (hj : a ≠ .junk) {f : FloatKind} {x y : Nat} (ha : VR σ a (.complex f x y)) : False := by
 cases a <;> simp only [VR] at ha
 all_goals first | exact absurd rfl hj | (cases ha; done) | (obtain ⟨_, _, _, hc⟩ := ha; cases hc; done) | (obtain ⟨_, _, hc⟩ := ha; cases hc; done) | (obtain ⟨_, _, _, _, _, hc, _⟩ := ha; cases hc; done) | (obtain ⟨_, _, _, _, hc⟩ := ha; cases hc; done)
theorem q_bin (hR : Rel w0 σ hp n w) (hL : ∀ x, VR σ (lk fr x) (ev x)) {op : BinOp} {t : Nat} {x y : Operand} (h : Zz (qBin P fr hp op t x y k) φ) :
  QR P σ w (do eqGuard op t x y (ev x) (ev y); binOp op t (ev x) (ev y)) k φ := by
 unfold qBin at h
 have hx := hL x
 have hy := hL y
 split at h
 ·rename_i kd a kd' b e1 e2
  rw [e1] at hx; rw [e2] at hy
  simp only [VR] at hx hy
  have key : QR P σ w (binOp op t (.int (kc kd) a) (.int (kc kd') b)) k φ := by
   split at h
   ·exact q_sh t (.inl rfl) h
   ·exact q_sh t (.inr rfl) h
   ·rename_i n1 n2
    obtain ⟨g, h2⟩ := h.bif
    have := ZI1 g; subst this
    exact q_int t (fun e => n1 e) (fun e => n2 e) h2
  obtain ⟨c, v, g1, g2, g3⟩ := key
  rw [hx, hy]
  exact ⟨c, v, Yd rfl g1, g2, g3⟩
 ·rename_i l m l' m' e1 e2
  rw [e1] at hx; rw [e2] at hy
  simp only [VR] at hx hy
  obtain ⟨c, v, g1, g2, g3⟩ := q_str (P := P) (σ := σ) (w := w) t h
  rw [hx, hy]
  exact ⟨c, v, Yd rfl g1, g2, g3⟩
 ·rename_i n1 n2
  cases ht : Zp2 x y (lk fr x) (lk fr y)
  ·rw [ht] at h; simp only [cond_false] at h
   have pre : ∀ {r : Bool}, ZlL P hp t (lk fr x) (lk fr y) = some r -> binOp .eql t (ev x) (ev y) = (do pure (.bool (<- Op.equal t (ev x) (ev y)))) /\ binOp .neq t (ev x) (ev y) = (do pure (.bool (!(<- Op.equal t (ev x) (ev y))))) := fun hr => by
    obtain ⟨j1, j2⟩ := Zir hr
    refine ZsU (fun i j a b e1 e2 => ?_) (fun a b e1 e2 => ?_) (fun i j a b e1 e2 => ?_) (fun i j a b c d e1 e2 => ?_)
    ·rw [e1] at hx; rw [e2] at hy
     obtain ⟨k1, q1⟩ := Zld j1 hx; obtain ⟨k2, q2⟩ := Zld j2 hy
     exact n1 _ _ _ _ q1 q2
    ·rw [e1] at hx; rw [e2] at hy
     obtain ⟨k1, m1, q1⟩ := ZlB j1 hx; obtain ⟨k2, m2, q2⟩ := ZlB j2 hy
     exact n2 _ _ _ _ q1 q2
    ·rw [e1] at hx; exact Zn6 j1 hx
    ·rw [e1] at hx; exact Zi3 j1 hx
   split at h
   ·split at h
    ·rename_i r hr
     have e := (ZdT hR hx hy hr).1
     refine ⟨_, .bool r, ?_, by simp only [VR], h⟩
     have g := Zpt hR hx hy hr ht (op := .eql)
     have e2 : (do eqGuard .eql t x y (ev x) (ev y); binOp .eql t (ev x) (ev y) : Sem Value) = (eqGuard .eql t x y (ev x) (ev y)).bind fun _ => binOp .eql t (ev x) (ev y) := rfl
     rw [e2, Sem.run_bind', g]; simp only [Result.andThen]
     rw [(pre hr).1]
     rw [show (do pure (.bool (<- Op.equal t (ev x) (ev y))) : Sem Value) = (Op.equal t (ev x) (ev y)).bind (fun r => Sem.pure (.bool r)) from rfl, Sem.run_bind', e]
     rfl
    ·exact h.no.elim
   ·split at h
    ·rename_i r hr
     have e := (ZdT hR hx hy hr).1
     refine ⟨_, .bool (!r), ?_, by simp only [VR], h⟩
     have g := Zpt hR hx hy hr ht (op := .neq)
     have e2 : (do eqGuard .neq t x y (ev x) (ev y); binOp .neq t (ev x) (ev y) : Sem Value) = (eqGuard .neq t x y (ev x) (ev y)).bind fun _ => binOp .neq t (ev x) (ev y) := rfl
     rw [e2, Sem.run_bind', g]; simp only [Result.andThen]
     rw [(pre hr).2]
     rw [show (do pure (.bool (!(<- Op.equal t (ev x) (ev y)))) : Sem Value) = (Op.equal t (ev x) (ev y)).bind (fun r => Sem.pure (.bool (!r))) from rfl, Sem.run_bind', e]
     rfl
    ·exact h.no.elim
   ·exact h.no.elim
  ·rw [ht] at h; exact h.no.elim
theorem q_un (hL : ∀ x, VR σ (lk fr x) (ev x)) {op : UnOp} {x : Operand} (h : Zz (qUn fr op x k) φ) : QR P σ w (Op.unary op (ev x)) k φ := by
 unfold qUn at h
 have hx := hL x
 split at h
 ·rename_i b e; rw [e] at hx; simp only [VR] at hx
  exact ⟨_, .bool (!b), by rw [hx]; rfl, by simp only [VR], h⟩
 ·rename_i kd m e; rw [e] at hx; simp only [VR] at hx
  rw [Zcg] at h
  exact ⟨_, _, by rw [hx]; rfl, by simp only [VR], h⟩
 ·rename_i kd m e; rw [e] at hx; simp only [VR] at hx
  exact ⟨_, _, by rw [hx]; rfl, by simp only [VR], h⟩
 ·exact h.no.elim
theorem ZAZ (hR : Rel w0 σ hp n w) (hL : ∀ x, VR σ (lk fr x) (ev x)) {src dst : Nat} {x : Operand} (h : Zz (ZyR P fr hp src dst x k) φ) : QR P σ w (convert src dst (ev x)) k φ := by
 unfold ZyR at h
 have hx := hL x
 split at h
 ·rename_i kd k' m hd e; rw [e] at hx; simp only [VR] at hx
  split at h
  ·rename_i ds hs
   rw [Zcg, Zkz] at h
   refine ⟨_, .int kd (kd.wrap m), ?_, by simp only [VR, Zkz], h⟩
   rw [hx]
   have h1 := Zd hd; have h2 := Zd hs
   cases ds <;> simp [convert, run_underlying h1, run_underlying h2, Conv.intToInt]
  ·exact h.no.elim
 ·rename_i l m hd e; rw [e] at hx; simp only [VR] at hx
  split at h
  ·rename_i ds hs
   refine ⟨_, .string ⟨(bys l m).toArray⟩, ?_, by simp only [VR], h⟩
   rw [hx]
   have h1 := Zd hd; have h2 := Zd hs
   cases ds <;> simp [convert, run_underlying h1, run_underlying h2]
  ·exact h.no.elim
 ·rename_i hd e; rw [e] at hx; simp only [VR] at hx
  split at h
  ·rename_i el hs
   obtain ⟨hu, h⟩ := h.bif
   refine ⟨_, .string ⟨(bys 0 0).toArray⟩, ?_, by simp only [VR], h⟩
   rw [hx, run_convert_bytes_string w src dst el none 0 0 (Zd hs) (ZcO hu) (Zd hd)]; rfl
  ·exact h.no.elim
 ·rename_i b o s l kk ex hd e; rw [e] at hx; simp only [VR] at hx
  obtain ⟨p, u, o', c, hs, hv, hlk, hkc, hex, ho, hle, heq⟩ := hx
  split at h
  ·rename_i el hsl
   obtain ⟨hu, h'⟩ := h.bif
   clear h
   split at h'
   ·rename_i m y hb
    have hrow := hR.at hs hb (by simp)
    cases hl0 : Nat.beq l 0
    ·rw [hl0] at h'; simp only [cond_false] at h'
     obtain ⟨hom, h⟩ := h'.bif
     clear h'
     have hom := ZJd hom
     have hl1 : l ≠ 0 := fun e => by rw [e] at hl0; cases hl0
     have hoo := ho (.inl (by omega)); subst hoo
     refine ⟨_, .string ⟨(bys l (Zn7 y o' l)).toArray⟩, ?_, by simp only [VR], h⟩
     rw [hv]
     have := run_convert_bytes_back (P := P) w src dst el ⟨p, o', none⟩ c (bys l (Zn7 y o' l)) (Zd hsl) (ZcO hu) (Zd hd) (fun j hj => by
      rw [add_eq]
      rw [Zw] at hj
      refine (Row.cell hrow ?_).1
      rw [ZIW]
      have e1 := Znh m y o' l hom
      have e2 : (bys m y)[o' + j]? = some (bys l (Zn7 y o' l))[j] := by
       have : (bys l (Zn7 y o' l))[j]? = some (bys l (Zn7 y o' l))[j] := ZI3 (by rw [Zw]; exact hj)
       rw [<- this, <- e1, List.getElem?_take_of_lt hj, ZJp]
      rw [e2]; rfl)
     rw [Zw] at this; exact this
    ·rw [hl0] at h'; simp only [cond_true] at h'
     have := ZI1 hl0; subst this
     refine ⟨_, .string ⟨(bys 0 0).toArray⟩, ?_, by simp only [VR], h'⟩
     rw [hv]
     exact run_convert_bytes_back (P := P) w src dst el ⟨p, o', none⟩ c [] (Zd hsl) (ZcO hu) (Zd hd) (fun j hj => by simp at hj)
   ·exact h'.no.elim
  ·exact h.no.elim
 ·exact h.no.elim
theorem Zx9 (hL : ∀ x, VR σ (lk fr x) (ev x)) {t : Operand} {ix : Nat} (h : Zz (Zj4 fr t ix k) φ) : QR P σ w (Instr.extract (ev t) ix) k φ := by
 unfold Zj4 at h
 have hx := hL t
 split at h
 ·rename_i vs e; rw [e] at hx; simp only [VR] at hx
  obtain ⟨ws, h1, hv⟩ := hx
  split at h
  ·rename_i c hc
   obtain ⟨y, g1, g2⟩ := h1.get hc
   exact ⟨_, y, by rw [hv]; simp [Instr.extract, g1], g2, h⟩
  ·exact h.no.elim
 ·exact h.no.elim
theorem ZEV (hL : ∀ x, VR σ (lk fr x) (ev x)) {t : Nat} {x : Operand} (h : Zz (Zus P fr t x k) φ) : QR P σ w (Instr.makeInterface t (ev x)) k φ := by
 unfold Zus at h
 split at h
 ·exact h.no.elim
 ·rename_i d hni hd
  have h1 := Zd hd
  split at h
  ·exact h.no.elim
  ·refine ⟨_, .iface t (ev x), ?_, by simp only [VR]; exact ⟨_, hL x, rfl⟩, h⟩
   cases d <;> first | exact (hni _ rfl).elim | simp [Instr.makeInterface, run_underlying h1]
 ·exact h.no.elim
theorem ZrU (hL : ∀ x, VR σ (lk fr x) (ev x)) : ∀ (l : List Operand), VRs σ (lks fr l) (l.map ev)
 | [] => by simp only [lks, VRs, List.map_nil]
 | x :: l => by simp only [lks, VRs, ZI9]; exact ⟨_, _, rfl, hL x, ZrU hL l⟩
theorem amap (a : Array Operand) : a.map ev = (a.toList.map ev).toArray := by apply Array.ext'; simp
theorem ZDy (hL : ∀ x, VR σ (lk fr x) (ev x)) {fn : Fn} {first caps : Array Operand} (h : Zz (Zt2 fr fn first caps k) φ) : QR P σ w (Instr.makeFunc fn (first.map ev) (caps.map ev)) k φ := by
 unfold Zt2 at h
 split at h
 ·rename_i f
  exact ⟨_, _, rfl, by simp only [VR]; exact ⟨_, _, ZrU hL _, ZrU hL _, by rw [amap, amap]⟩, h⟩
 ·rename_i name
  split at h
  ·rename_i x e1 e2
   have hx := hL x
   split at h
   ·rename_i t v e
    rw [e] at hx
    have f1 : first = #[x] := by rw [<- Array.toArray_toList (xs := first), e1]
    have f2 : caps = #[] := by rw [<- Array.toArray_toList (xs := caps), e2]
    subst f1; subst f2
    exact ⟨_, _, rfl, by simp only [VR] at hx ⊢; exact ⟨_, hx, by simp⟩, h⟩
   ·exact h.no.elim
  ·exact h.no.elim
 ·exact h.no.elim
end
end Go.Cx
namespace Go.Cx
open Go.RowKit (Below)
section
variable {P : Program} {w0 : World} {σ : Sg} {hp : H} {n : Nat} {w : World} {fr : F} {ev : Operand -> Value} {k : CV -> Res} {φ : Out -> Prop}
theorem Ze0 {t : Nat} {c : CV} (h : ZjN P t = some c) : ∃ i zv, P.info? t = some i /\ i.zero = some zv /\ VR σ c zv := by
 unfold ZjN at h
 split at h
 ·rename_i i hi
  split at h
  ·rename_i zv hz; cases h; exact ⟨i, zv, Zaa hi, hz, Zw3 _⟩
  ·cases h
 ·cases h
/-! ### Maps -/
theorem Zhv {d : TypeDesc} {x y : CV} {vx vy : Value} (hx : VR σ x vx) (hy : VR σ y vy) {b : Bool} (h : Zn2 x y = some b)
  (hd : (∃ kd k a, d = .int kd /\ x = .int k a) \/ (d = .string /\ ∃ l m, x = .str l m) \/ (d = .bool /\ ∃ a, x = .bool a) \/ (∃ e, d = .pointer e) /\ ∃ a o, x = .ptr a o) : Instr.sameNow d vx vy = some b := by
 unfold Zn2 at h
 split at h
 ·rename_i k a j c
  obtain ⟨h1, h2⟩ := ZdN h
  have := ZI1 h1; subst this
  cases h2
  simp only [VR] at hx hy; subst hx; subst hy
  rcases hd with ⟨kd, _, _, rfl, _⟩ | ⟨_, _, _, hc⟩ | ⟨_, _, hc⟩ | ⟨_, _, _, hc⟩
  ·simp [Instr.sameNow, ZbK]
  ·cases hc
  ·cases hc
  ·cases hc
 ·simp only [VR] at hx hy; subst hx; subst hy; cases h
  rcases hd with ⟨kd, _, _, rfl, hc⟩ | ⟨_, _, _, hc⟩ | ⟨rfl, _, hc⟩ | ⟨_, _, _, hc⟩
  ·cases hc
  ·cases hc
  ·simp [Instr.sameNow, Zgs]
  ·cases hc
 ·rename_i l m l' m'
  simp only [VR] at hx hy; subst hx; subst hy; cases h
  rcases hd with ⟨kd, _, _, rfl, hc⟩ | ⟨rfl, _, _, hc⟩ | ⟨rfl, _, hc⟩ | ⟨_, _, _, hc⟩
  ·cases hc
  ·simp only [Instr.sameNow]; rw [beq_toListBytes, Z4, Z4, ZgP]
  ·cases hc
  ·cases hc
 ·cases h
def KeyD (d : TypeDesc) (x : CV) : Prop := (∃ kd k a, d = .int kd /\ x = .int k a) \/ (d = .string /\ ∃ l m, x = .str l m) \/ (d = .bool /\ ∃ a, x = .bool a) \/ (∃ e, d = .pointer e) /\ ∃ a o, x = .ptr a o
theorem Zbq {t : Nat} {x : CV} (h : Zfi P t x = true) : ∃ d, P.underlying t = some d /\ KeyD d x := by
 unfold Zfi at h
 split at h
 ·rename_i hd; exact ⟨_, Zd hd, .inl ⟨_, _, _, rfl, rfl⟩⟩
 ·rename_i hd; exact ⟨_, Zd hd, .inr (.inl ⟨rfl, _, _, rfl⟩)⟩
 ·rename_i hd; exact ⟨_, Zd hd, .inr (.inr (.inl ⟨rfl, _, rfl⟩))⟩
 ·rename_i hd; exact ⟨_, Zd hd, .inr (.inr (.inr ⟨⟨_, rfl⟩, _, _, rfl⟩))⟩
 ·cases h
theorem Zbi {b : Bool} {kt : TypeId} {d : TypeDesc} {x : CV} (hk : P.underlying kt = some d) (hd : KeyD d x) (v : Value) (w : World) : (Instr.checkKey b 10000 kt v).run P w = .ok () w := by
 rw [show (10000 : Nat) = 9999 + 1 from rfl, Instr.checkKey]
 rcases hd with ⟨_, _, _, rfl, _⟩ | ⟨rfl, _⟩ | ⟨rfl, _⟩ | ⟨⟨_, rfl⟩, _⟩ <;> simp [run_underlying hk]
def Same2 (σ : Sg) : Option (Nat × CV) -> Option (Nat × Value) -> Prop
 | none, none => True
 | some (j, v), some (j', v') => j = j' /\ VR σ v v'
 | _, _ => False
theorem Z1 {d : TypeDesc} {x : CV} {vx : Value} (hx : VR σ x vx) (hd : KeyD d x) : ∀ {es : List Ent} {ms : List MapEntry} {i : Nat} {r : Option (Nat × CV)}, ZD σ es ms -> Zjn x es i = some r →
  ∃ r', Instr.findNow d vx ms i = some r' /\ Same2 σ r r'
 | [], ms, i, r, he, h => by cases he; cases h; exact ⟨none, rfl, trivial⟩
 | e :: es, ms, i, r, he, h => by
  unfold ZD at he
  obtain ⟨m, ns, rfl, h1, h2, h3, h4⟩ := he
  unfold Zjn at h
  split at h
  ·rename_i hk
   cases h
   exact ⟨some (i, m.val), by unfold Instr.findNow; rw [Zhv hx h1 hk hd], rfl, h2⟩
  ·rename_i hk
   obtain ⟨r', g1, g2⟩ := Z1 hx hd h4 h
   exact ⟨r', by unfold Instr.findNow; rw [Zhv hx h1 hk hd]; exact g1, g2⟩
  ·cases h
theorem ZD.len : ∀ {es : List Ent} {ms : List MapEntry}, ZD σ es ms -> es.length = ms.length
 | [], _, h => by cases h; rfl
 | e :: es, _, h => by unfold ZD at h; obtain ⟨m, ns, rfl, _, _, _, h4⟩ := h; simp [ZD.len h4]
theorem Yj {kt : TypeId} {d : TypeDesc} (hk : P.underlying kt = some d) {v : Value} {ms : List MapEntry} {r : Option (Nat × Value)} (h : Instr.findNow d v ms 0 = some r) (w : World) : (Instr.findKey kt v ms).run P w = .ok r w := by
 simp [Instr.findKey, run_underlying hk, h]
theorem Zma (hR : Rel w0 σ hp n w) {x : CV} {vx : Value} (hx : VR σ x vx) {es : List Ent} (h : Ztz hp x = some es) :
  ∃ ms : List MapEntry, ZD σ es ms /\ ((vx = .map none /\ ms = []) \/ ∃ b c, vx = .map (some b) /\ w.heap[b]? = some (.map ms.toArray c)) := by
 unfold Ztz at h
 split at h
 ·simp only [VR] at hx; cases h
  exact ⟨[], rfl, .inl ⟨hx, rfl⟩⟩
 ·rename_i b; simp only [VR] at hx
  obtain ⟨p, u, hs, hv⟩ := hx
  split at h
  ·rename_i es c hb
   cases h
   obtain ⟨ms, g1, g2⟩ := hR.at hs hb (by simp)
   exact ⟨ms, g1, .inr ⟨p, c, hv, g2⟩⟩
  ·cases h
 ·cases h
theorem Zdf {t kt et : TypeId} (ht : P.underlying t = some (.map kt et)) {vx vi : Value} {ms : List MapEntry} (he : (vx = .map none /\ ms = []) \/ ∃ b c, vx = .map (some b) /\ w.heap[b]? = some (.map ms.toArray c))
  (hck : ∀ b, (Instr.checkKey b 10000 kt vi).run P w = .ok () w) {r : Option (Nat × Value)} (hf : (Instr.findKey kt vi ms).run P w = .ok r w) (ok : Bool) :
  (∀ j v, r = some (j, v) -> (Instr.lookup t vx vi ok).run P w = .ok (if ok then .tuple #[v, .bool true] else v) w) ∧
  (r = none -> ∀ z, (zeroValue et).run P w = .ok z w -> (Instr.lookup t vx vi ok).run P w = .ok (if ok then .tuple #[z, .bool false] else z) w) := by
 rcases he with ⟨rfl, rfl⟩ | ⟨b, c, rfl, hb⟩
 ·constructor
  ·rintro j v rfl; simp [Instr.lookup, run_underlying ht, hck, hf]
  ·rintro rfl z hz; simp [Instr.lookup, run_underlying ht, hck, hf, hz]
 ·have hg : (getObj b).run P w = .ok (.map ms.toArray c) w := by simp [getObj, Sem.run, hb]
  constructor
  ·rintro j v rfl; simp [Instr.lookup, run_underlying ht, hck, hf, hg]
  ·rintro rfl z hz; simp [Instr.lookup, run_underlying ht, hck, hf, hg, hz]
theorem Zwg {ok : Bool} {c : CV} {v : Value} (b : Bool) (h : VR σ c v) : VR σ (bif ok then .tup [c, .bool b] else c) (if ok then .tuple #[v, .bool b] else v) := by
 cases ok
 ·simpa using h
 ·simp only [cond_true, if_true, VR, VRs]; exact ⟨_, ⟨_, _, rfl, h, _, _, rfl, rfl, rfl⟩, rfl⟩
theorem ZH9 (hR : Rel w0 σ hp n w) (hL : ∀ x, VR σ (lk fr x) (ev x)) {t : Nat} {x ix : Operand} {ok : Bool} (h : Zz (ZEz P fr hp t x ix ok k) φ) : QR P σ w (Instr.lookup t (ev x) (ev ix) ok) k φ := by
 unfold ZEz at h
 split at h
 ·rename_i kt et ht
  obtain ⟨hkk, h2⟩ := h.bif
  clear h
  have ht := Zd ht
  obtain ⟨d, hk, hd⟩ := Zbq hkk
  split at h2
  ·rename_i es hes
   obtain ⟨ms, g1, g2⟩ := Zma hR (hL x) hes
   split at h2
   ·rename_i j v hf
    obtain ⟨r', g3, g4⟩ := Z1 (hL ix) hd g1 hf
    cases r' with
    | none => exact g4.elim
    | some p =>
     obtain ⟨j', mv⟩ := p
     exact ⟨_, _, (Zdf ht g2 (fun b => Zbi hk hd _ w) (Yj hk g3 w) ok).1 _ _ rfl, Zwg true g4.2, h2⟩
   ·rename_i hf
    obtain ⟨r', g3, g4⟩ := Z1 (hL ix) hd g1 hf
    cases r' with
    | some p => exact g4.elim
    | none =>
     split at h2
     ·rename_i v hz
      obtain ⟨i, zv, z1, z2, z3⟩ := Ze0 hz
      exact ⟨_, _, (Zdf ht g2 (fun b => Zbi hk hd _ w) (Yj hk g3 w) ok).2 rfl _ (Zv z1 z2 w), Zwg false z3, h2⟩
     ·exact h2.no.elim
   ·exact h2.no.elim
  ·exact h2.no.elim
 ·exact h.no.elim
/-! ### Builtins -/
theorem q_len (hR : Rel w0 σ hp n w) {x : CV} {vx : Value} (hx : VR σ x vx) {t ty : Nat} {ts : Array Nat} (h0 : ts[0]? = some t) (h : Zz (qLen P hp x t k) φ) : QR P σ w (Builtin.len_ ts ty #[vx]) k φ := by
 unfold qLen at h
 split at h
 ·rename_i l m hd; simp only [VR] at hx; subst hx
  have hz : (⟨(bys l m).toArray⟩ : ByteArray).size = l := by simp [ByteArray.size, Zw]
  exact ⟨_, .int .i64 l, by simp [Builtin.len_, h0, run_underlying (Zd hd), goInt, hz], by simp only [VR]; rfl, h⟩
 ·rename_i e hd; simp only [VR] at hx; subst hx
  exact ⟨_, .int .i64 0, by simp [Builtin.len_, h0, run_underlying (Zd hd), goInt], by simp only [VR]; rfl, h⟩
 ·rename_i e b o s l kk ex hd; simp only [VR] at hx; obtain ⟨_, _, _, _, _, rfl, _⟩ := hx
  exact ⟨_, .int .i64 l, by simp [Builtin.len_, h0, run_underlying (Zd hd), goInt], by simp only [VR]; rfl, h⟩
 ·rename_i kt e hd; simp only [VR] at hx; subst hx
  exact ⟨_, .int .i64 0, by simp [Builtin.len_, h0, run_underlying (Zd hd), goInt], by simp only [VR]; rfl, h⟩
 ·rename_i kt e b hd; simp only [VR] at hx; obtain ⟨p, u, hs, rfl⟩ := hx
  split at h
  ·rename_i es c hb
   obtain ⟨ms, g1, g2⟩ := hR.at hs hb (by simp)
   have hg : (getObj p).run P w = .ok (.map ms.toArray c) w := by simp [getObj, Sem.run, g2]
   exact ⟨_, .int .i64 es.length, by simp [Builtin.len_, h0, run_underlying (Zd hd), goInt, hg, g1.len], by simp only [VR]; rfl, h⟩
  ·exact h.no.elim
 ·rename_i m e hd
  exact ⟨_, .int .i64 m, by simp [Builtin.len_, h0, run_underlying (Zd hd), goInt], by simp only [VR]; rfl, h⟩
 ·exact h.no.elim
theorem q_cap {x : CV} {vx : Value} (hx : VR σ x vx) {t ty : Nat} {ts : Array Nat} (h0 : ts[0]? = some t) (h : Zz (qCap P x t k) φ) : QR P σ w (Builtin.cap_ ts ty #[vx]) k φ := by
 unfold qCap at h
 split at h
 ·rename_i e hd; simp only [VR] at hx; subst hx
  exact ⟨_, .int .i64 0, by simp [Builtin.cap_, h0, run_underlying (Zd hd), goInt], by simp only [VR]; rfl, h⟩
 ·rename_i e b o s l c hd; simp only [VR] at hx; obtain ⟨_, _, _, cc, _, rfl, _, _, hex, _⟩ := hx
  have := hex trivial; subst this
  exact ⟨_, .int .i64 cc, by simp [Builtin.cap_, h0, run_underlying (Zd hd), goInt], by simp only [VR]; rfl, h⟩
 ·exact h.no.elim
theorem q_max {x y : CV} {vx vy : Value} (hx : VR σ x vx) (hy : VR σ y vy) {ty : Nat} {ts : Array Nat} (h : Zz (Zfd true x y k) φ) : QR P σ w (Builtin.max_ ts ty #[vx, vy]) k φ := by
 unfold Zfd at h
 split at h
 ·rename_i kd a kd' b
  obtain ⟨_, h2⟩ := h.bif
  simp only [VR] at hx hy; subst hx; subst hy
  exact ⟨_, .int (kc kd) (if b > a then b else a), by simp [Builtin.max_, Builtin.max2], by simp only [VR, cond_true], h2⟩
 ·exact h.no.elim
theorem q_min {x y : CV} {vx vy : Value} (hx : VR σ x vx) (hy : VR σ y vy) {ty : Nat} {ts : Array Nat} (h : Zz (Zfd false x y k) φ) : QR P σ w (Builtin.min_ ts ty #[vx, vy]) k φ := by
 unfold Zfd at h
 split at h
 ·rename_i kd a kd' b
  obtain ⟨_, h2⟩ := h.bif
  simp only [VR] at hx hy; subst hx; subst hy
  exact ⟨_, .int (kc kd) (if b < a then b else a), by simp [Builtin.min_, Builtin.min2], by simp only [VR, cond_false], h2⟩
 ·exact h.no.elim
theorem ZcC {c : Call} {l : List Operand} (h : c.args.toList = l) : c.args.map ev = (l.map ev).toArray := by rw [amap, h]
theorem Zt6 (hR : Rel w0 σ hp n w) (hL : ∀ x, VR σ (lk fr x) (ev x)) {c : Call} {b : Builtin} {ty : Nat} (h : Zz (ZqE P fr hp b c.args.toList c.argTypes.toList k) φ) {consts : Array Bool} :
  ∃ cv v, (builtin b c.argTypes ty consts (c.args.map ev)).run P w = .ok (.value v) w /\ VR σ cv v /\ Zz (k cv) φ := by
 unfold ZqE at h
 split at h
 ·rename_i x t ts ha ht
  have h0 : c.argTypes[0]? = some t := by rw [<- ZIP, ht]; rfl
  obtain ⟨cv, v, g1, g2, g3⟩ := q_len (ty := ty) hR (hL x) h0 h
  refine ⟨cv, v, ?_, g2, g3⟩
  rw [ZcC ha]
  exact ZH g1
 ·rename_i x t ts ha ht
  have h0 : c.argTypes[0]? = some t := by rw [<- ZIP, ht]; rfl
  obtain ⟨cv, v, g1, g2, g3⟩ := q_cap (P := P) (w := w) (ty := ty) (hL x) h0 h
  refine ⟨cv, v, ?_, g2, g3⟩
  rw [ZcC ha]
  exact ZH g1
 ·rename_i x y ha
  obtain ⟨cv, v, g1, g2, g3⟩ := q_max (P := P) (w := w) (ty := ty) (ts := c.argTypes) (hL x) (hL y) h
  refine ⟨cv, v, ?_, g2, g3⟩
  rw [ZcC ha]
  exact ZH g1
 ·rename_i x y ha
  obtain ⟨cv, v, g1, g2, g3⟩ := q_min (P := P) (w := w) (ty := ty) (ts := c.argTypes) (hL x) (hL y) h
  refine ⟨cv, v, ?_, g2, g3⟩
  rw [ZcC ha]
  exact ZH g1
 ·exact h.no.elim
/-! ### Structs -/
theorem ZbS (off : Nat) : ∀ (vs : List Value) (k : Nat) (cs : Array Value), off + k + vs.length <= cs.size →
  ((vs.zipIdx k).foldl (fun cs (p : Value × Nat) => cs.setIfInBounds (off + p.2) p.1) cs).toList = cs.toList.take (off + k) ++ vs ++ cs.toList.drop (off + k + vs.length)
 | [], k, cs, h => by simp
 | v :: vs, k, cs, h => by
  simp only [List.zipIdx_cons, List.foldl_cons]
  rw [ZbS off vs (k + 1) _ (by simp at h ⊢; omega)]
  simp only [Array.toList_setIfInBounds, ZJk]
  simp only [ZJk] at h
  have hlt : off + k < cs.toList.length := by simp; omega
  apply List.ext_getElem?
  intro i
  simp only [List.getElem?_append, ZI2, ZI5, List.length_set, List.getElem?_take, ZJp, ZJk, Array.length_toList]
  have hsz : (off + (k + 1)) <= cs.size := by omega
  rw [Nat.min_eq_left hsz, Nat.min_eq_left (show off + k <= cs.size by omega)]
  by_cases h1 : i < off + k
  ·rw [if_pos (show i < off + (k + 1) + vs.length by omega), if_pos (show i < off + (k + 1) by omega), if_pos (show i < off + (k + 1) by omega), if_pos (show i < off + k + (vs.length + 1) by omega), if_pos h1, if_pos h1]
   rw [List.getElem?_set_ne (by omega)]
  ·by_cases h2 : i = off + k
   ·subst h2
    rw [if_pos (show off + k < off + (k + 1) + vs.length by omega), if_pos (show off + k < off + (k + 1) by omega), if_pos (show off + k < off + (k + 1) by omega), if_pos (show off + k < off + k + (vs.length + 1) by omega), if_neg h1]
    rw [List.getElem?_set_self (by simpa using hlt)]
    simp
   ·by_cases h3 : i < off + (k + 1) + vs.length
    ·rw [if_pos h3, if_neg (show ¬ i < off + (k + 1) by omega), if_pos (show i < off + k + (vs.length + 1) by omega), if_neg h1]
     rw [show i - (off + k) = (i - (off + (k + 1))) + 1 by omega, List.getElem?_cons_succ]
    ·rw [if_neg h3, if_neg (show ¬ i < off + k + (vs.length + 1) by omega)]
     rw [List.getElem?_set_ne (by omega)]
     congr 1; omega
theorem Zck (hL : ∀ x, VR σ (lk fr x) (ev x)) {place : Nat -> Option (Nat × Nat)} : ∀ (parts : List (Nat × Operand)) (cs r : List CV) (vs : List Value), VRs σ cs vs -> ZmJ place fr parts cs = some r →
  ∃ ws, Instr.fill place vs.toArray (parts.map fun (i, x) => (i, ev x)) = some ws.toArray /\ VRs σ r ws
 | [], cs, r, vs, hv, h => by cases h; exact ⟨vs, rfl, hv⟩
 | (i, x) :: rest, cs, r, vs, hv, h => by
  unfold ZmJ at h
  split at h
  ·rename_i off size hpl
   obtain ⟨h1, h4⟩ := ZdN h
   have hj : lk fr x ≠ .junk := by intro e; rw [e] at h1; cases h1
   have h1 : (cellsOf (lk fr x)).length = size := by
    split at h1
    ·cases h1
    ·exact ZI1 h1
   have hc := ZjZ hj (hL x)
   split at h4
   ·rename_i cs' hov
    obtain ⟨g1, g2⟩ := VRs.put hc hv hov
    obtain ⟨ws, f1, f2⟩ := Zck hL rest cs' r _ g1 h4
    refine ⟨ws, ?_, f2⟩
    have hsz : (ev x).cells.size = size := by rw [<- Array.length_toList, <- hc.len, h1]
    simp only [ZI9, Instr.fill, hpl]
    rw [if_neg (by rw [hsz]; simp only [Array.length_toList, hsz] at g2; simp; omega)]
    rw [<- f1]
    congr 1
    apply Array.ext'
    rw [<- Array.foldl_toList, Array.toList_zipIdx]
    have := ZbS off (ev x).cells.toList 0 vs.toArray (by simp only [List.size_toArray, Array.length_toList] at g2 ⊢; omega)
    simpa using this
   ·cases h4
  ·cases h
theorem Zc0 : ∀ (fs : List Field), ZzS P fs = true -> ∃ places, fs.mapM (fun f => (P.info? f.type).map fun i => (f.offset, i.size)) = some places /\ ∀ i : Nat, places[i]? = Zhh P fs i
 | [], _ => ⟨[], rfl, by intro i; simp [Zhh, Zk5]⟩
 | f :: fs, h => by
  unfold ZzS at h
  split at h
  ·rename_i n hn
   obtain ⟨pl, h1, h2⟩ := Zc0 fs h
   obtain ⟨i, hi, rfl⟩ := Zew hn
   refine ⟨(f.offset, i.size) :: pl, by simp [List.mapM_cons, hi, h1], ?_⟩
   intro j
   cases j with
   | zero => simp [Zhh, Zk5, hn]
   | succ j => simp only [List.getElem?_cons_succ]; rw [h2 j]; rfl
  ·cases h
theorem ZEX (hL : ∀ x, VR σ (lk fr x) (ev x)) {t : Nat} {parts : Array (Nat × Operand)} (h : Zz (Zs0 P fr t parts k) φ) : QR P σ w (Instr.build t (parts.map fun (i, x) => (i, ev x))) k φ := by
 unfold Zs0 at h
 have hparts : (parts.map fun (i, x) => (i, ev x)).toList = parts.toList.map fun (i, x) => (i, ev x) := by simp
 split at h
 ·rename_i z hz
  obtain ⟨i, zv, z1, z2, z3⟩ := Y6 (σ := σ) hz
  split at h
  ·rename_i fs hd
   have hu := Zd hd
   obtain ⟨ha, h2⟩ := h.bif
   clear h
   split at h2
   ·rename_i cs hcs
    obtain ⟨pl, p1, p2⟩ := Zc0 fs.toList ha
    obtain ⟨ws, f1, f2⟩ := Zck hL _ _ _ _ z3 hcs
    refine ⟨_, .agg ws.toArray, run_build w t _ _ ?_, by simp only [VR]; exact ⟨ws, f2, rfl⟩, h2⟩
    unfold Program.built
    rw [z1, hu]
    simp only [z2, p1, hparts]
    have e1 : (fun x : Nat => pl.toArray[x]?) = Zhh P fs.toList := by
     funext x; simp only [List.getElem?_toArray]; exact p2 x
    rw [e1]
    simpa using f1
   ·exact h2.no.elim
  ·rename_i m e hd
   have hu := Zd hd
   split at h
   ·rename_i s hs
    split at h
    ·rename_i cs hcs
     obtain ⟨ws, f1, f2⟩ := Zck hL _ _ _ _ z3 hcs
     refine ⟨_, .agg ws.toArray, run_build w t _ _ ?_, by simp only [VR]; exact ⟨ws, f2, rfl⟩, h⟩
     obtain ⟨ie, hie, rfl⟩ := Zew hs
     unfold Program.built
     rw [z1, hu]
     simp only [z2, hie, hparts]
     simpa using f1
    ·exact h.no.elim
   ·exact h.no.elim
  ·exact h.no.elim
 ·exact h.no.elim
/-! ### Assertions -/
theorem ZsZ {v : Value} (h : VR σ .nili v) : v = .nilIface := by simpa only [VR] using h
theorem Zz4 (hL : ∀ x, VR σ (lk fr x) (ev x)) {t xt : Nat} {x : Operand} {ok : Bool} (h : Zz (Zon P fr x xt t ok k) φ) : QR P σ w (Instr.typeAssert (ev x) xt t ok) k φ := by
 unfold Zon at h
 have hx := hL x
 have zero : ∀ {v : CV}, ZjN P t = some v -> ∃ zv, (zeroValue t).run P w = .ok zv w /\ VR σ (.tup [v, .bool false]) (.tuple #[zv, .bool false]) := fun hz => by
  obtain ⟨i, zv, z1, z2, z3⟩ := Ze0 (σ := σ) hz
  exact ⟨zv, Zv z1 z2 w, Zwg (ok := true) false z3⟩
 split at h
 ·rename_i want hd
  have hu := Zd hd
  split at h
  ·rename_i d v e; rw [e] at hx
   have hx' := hx
   simp only [VR] at hx; obtain ⟨y, hy, hv⟩ := hx
   split at h
   ·rename_i i hi
    have hi := Zaa hi
    split at h
    ·rename_i hm
     refine ⟨_, _, ?_, Zwg (ok := ok) true hx', h⟩
     rw [hv]; simp [Instr.typeAssert, run_underlying hu, typeInfo, hi, hm]
    ·rename_i m hm
     obtain ⟨hok, h2⟩ := h.bif
     clear h
     subst hok
     split at h2
     ·rename_i z hz
      obtain ⟨zv, r1, r2⟩ := zero hz
      refine ⟨_, _, ?_, r2, h2⟩
      rw [hv]; simp [Instr.typeAssert, run_underlying hu, typeInfo, hi, hm, r1]
     ·exact h2.no.elim
   ·exact h.no.elim
  ·rename_i e; rw [e] at hx; have hv := ZsZ hx
   obtain ⟨hok, h2⟩ := h.bif
   clear h
   subst hok
   split at h2
   ·rename_i z hz
    obtain ⟨zv, r1, r2⟩ := zero hz
    refine ⟨_, _, ?_, r2, h2⟩
    rw [hv]; simp [Instr.typeAssert, run_underlying hu, r1]
   ·exact h2.no.elim
  ·exact h.no.elim
 ·rename_i d hni hd
  have hu := Zd hd
  split at h
  ·rename_i u v e; rw [e] at hx
   simp only [VR] at hx; obtain ⟨y, hy, hv⟩ := hx
   have e0 : (Instr.typeAssert (ev x) xt t ok).run P w = (if u = t then (pure (if ok then .tuple #[y, .bool true] else y) : Sem Value).run P w else (do if ok then pure (.tuple #[<- zeroValue t, .bool false]) else runtimePanic (.typeAssertion (some xt) (some u) t "") : Sem Value).run P w) := by
    rw [hv]
    cases d <;> first | exact (hni _ rfl).elim | (by_cases hut : u = t <;> simp [Instr.typeAssert, run_underlying hu, hut])
   cases hq : Nat.beq u t
   ·rw [hq] at h; simp only [cond_false] at h
    have hne : u ≠ t := fun e => by rw [e, Nat.beq_refl] at hq; cases hq
    obtain ⟨hok, h2⟩ := h.bif
    clear h
    subst hok
    split at h2
    ·rename_i z hz
     obtain ⟨zv, r1, r2⟩ := zero hz
     refine ⟨_, _, ?_, r2, h2⟩
     rw [e0, if_neg hne]; simp [r1]
    ·exact h2.no.elim
   ·rw [hq] at h; simp only [cond_true] at h
    have := ZI1 hq
    refine ⟨_, _, ?_, Zwg (ok := ok) true hy, h⟩
    rw [e0, if_pos this]; rfl
  ·rename_i e; rw [e] at hx; have hv := ZsZ hx
   obtain ⟨hok, h2⟩ := h.bif
   clear h
   subst hok
   split at h2
   ·rename_i z hz
    obtain ⟨zv, r1, r2⟩ := zero hz
    refine ⟨_, _, ?_, r2, h2⟩
    rw [hv]
    cases d <;> first | exact (hni _ rfl).elim | simp [Instr.typeAssert, run_underlying hu, r1]
   ·exact h2.no.elim
  ·exact h.no.elim
 ·exact h.no.elim
/-! ### The whole -/
theorem Zbg (hR : Rel w0 σ hp n w) (hL : ∀ x, VR σ (lk fr x) (ev x)) {o : Oper} (h : Zz (qev P fr hp o.op k) φ) :
  ∃ c v, (execOp ev o).run P w = .ok (.value v) w /\ VR σ c v /\ Zz (k c) φ := by
 have fin : ∀ {s : Sem Value}, QR P σ w s k φ -> ∃ c v, (do pure (Next.value (<- s)) : Sem Next).run P w = .ok (.value v) w /\ VR σ c v /\ Zz (k c) φ :=
  fun ⟨c, v, h1, h2, h3⟩ => ⟨c, v, ZH h1, h2, h3⟩
 unfold execOp
 generalize ho : o.op = op at h ⊢
 unfold qev at h
 split at h
 ·exact ⟨_, _, rfl, hL _, h⟩
 ·exact ⟨_, _, rfl, hL _, h⟩
 ·exact ZIM hL h
 ·exact fin (ZIh hR hL h)
 ·rename_i x
  unfold qNil at h
  have hx := hL x
  split at h
  ·exact h.no.elim
  ·exact h.no.elim
  ·exact h.no.elim
  ·exact h.no.elim
  ·exact h.no.elim
  ·rename_i n1 n2 n3 n4 n5
   refine ⟨_, ev x, ?_, hx, h⟩
   simp only
   have key : ∀ v : Value, VR σ (lk fr x) v -> ((match v with
    | .pointer none | .nilIface | .nilFunc => runtimePanic .nilDeref
    | .func (.method name) first captured =>
     match (first[0]? : Option Value) with
     | some .nilIface => runtimePanic .nilDeref
     | some (.iface t w) => do
      if (<- nilAhead ((<- program).types.size + Made.depth) t w name) != some false then
       unsupported (.noEntry "op/nilCheck.the method's receiver behind this interface value is a nil pointer, or cannot be seen to be none, and the arguments act or may panic (ledger 612)")
      pure (.value (.func (.method name) first captured))
     | _ => pure (.value (.func (.method name) first captured))
    | x => pure (.value x) : Sem Next)).run P w = .ok (.value v) w := by
    intro v hx
    cases hc : lk fr x <;> rw [hc] at hx <;> simp only [VR] at hx
    all_goals first
     | exact absurd hc n1 | exact absurd hc n2 | exact absurd hc n3 | exact absurd hc n4 | exact absurd hc (n5 _ _)
     | (subst hx; rfl) | (obtain ⟨_, _, _, _, _, rfl, _⟩ := hx; rfl) | (obtain ⟨_, _, _, _, rfl⟩ := hx; rfl) | (obtain ⟨_, _, _, rfl⟩ := hx; rfl) | (obtain ⟨_, _, rfl⟩ := hx; rfl)
   exact key (ev x) hx
 ·exact fin (q_bin hR hL h)
 ·exact fin (q_un hL h)
 ·exact fin (ZAZ hR hL h)
 ·exact fin (ZEV hL h)
 ·exact fin (ZDy hL h)
 ·exact fin (ZCo hL h)
 ·exact fin (ZyM hL h)
 ·exact fin (ZDB hL h)
 ·exact fin (Zz8 hL h)
 ·exact fin (ZDs hL h)
 ·exact fin (ZH9 hR hL h)
 ·exact fin (Zz4 hL h)
 ·exact fin (Zx9 hL h)
 ·exact fin (ZEX hL h)
 ·rename_i c
  unfold ZH8 at h
  split at h
  ·rename_i b hb
   obtain ⟨cv, v, g1, g2, g3⟩ := Zt6 (ty := o.type) hR hL h (consts := c.args.map fun | .const _ => true | _ => false)
   refine ⟨cv, v, ?_, g2, g3⟩
   simp only [resolve, hb]
   exact g1
  ·exact h.no.elim
 ·exact h.no.elim
end
end Go.Cx
namespace Go.Cx
open Go.RowKit (Below)
theorem Zws {P : Program} {s : Sem Unit} {w w' : World} (h : s.run P w = .ok () w') : (do s; pure Next.skip : Sem Next).run P w = .ok .skip w' := by
 have : (do s; pure Next.skip : Sem Next) = s.bind (fun _ => Sem.pure Next.skip) := rfl
 rw [this, Sem.run_bind', h]; rfl
def Nle (n m : Nat) : Prop := idN n <= idN m /\ Y1 m = Y1 n
theorem Nle.refl (n : Nat) : Nle n n := ⟨ZIQ _, rfl⟩
theorem Nle.trans {a b c : Nat} (h : Nle a b) (k : Nle b c) : Nle a c := ⟨Nat.le_trans h.1 k.1, k.2.trans h.2⟩
theorem Ex.trans {σ τ υ : Sg} {n m : Nat} (h : Ex n σ τ) (hn : Nle n m) (k : Ex m τ υ) : Ex n σ υ :=
 ⟨h.1.trans k.1, fun i hi => by rw [k.2 i (fun ⟨a, b⟩ => hi ⟨Nat.le_trans hn.1 a, by rw [<- hn.2]; exact b⟩), h.2 i hi]⟩
section
variable {P : Program} {w0 : World} {σ : Sg} {hp : H} {n : Nat} {w : World} {fr : F} {ev : Operand -> Value} {k : KS} {φ : Out -> Prop}
def LR (P : Program) (w0 : World) (σ : Sg) (n : Nat) (w : World) (s : Sem Next) (k : KS) (φ : Out -> Prop) : Prop :=
 ∃ w' c hp' n' σ', ((∃ v, s.run P w = .ok (.value v) w' /\ VR σ' c v) \/ (s.run P w = .ok .skip w' /\ c = .tup [])) /\ Rel w0 σ' hp' n' w' /\ Ex n σ σ' /\ Nle n n' /\ Zz (k c hp' n') φ
theorem LR.val {s : Sem Value} {w' : World} {c : CV} {v : Value} {hp' : H} {n' : Nat} {σ' : Sg} (h : s.run P w = .ok v w') (hv : VR σ' c v) (hR : Rel w0 σ' hp' n' w') (hx : Ex n σ σ') (hn : Nle n n') (hk : Zz (k c hp' n') φ) :
  LR P w0 σ n w (do pure (Next.value (<- s)) : Sem Next) k φ := ⟨w', c, hp', n', σ', .inl ⟨v, ZH h, hv⟩, hR, hx, hn, hk⟩
theorem LR.unit {s : Sem Unit} {w' : World} {hp' : H} {n' : Nat} {σ' : Sg} (h : s.run P w = .ok () w') (hR : Rel w0 σ' hp' n' w') (hx : Ex n σ σ') (hn : Nle n n') (hk : Zz (k (.tup []) hp' n') φ) :
  LR P w0 σ n w (do s; pure Next.skip : Sem Next) k φ := ⟨w', _, hp', n', σ', .inr ⟨Zws h, rfl⟩, hR, hx, hn, hk⟩
theorem ZQ (hR : Rel w0 σ hp n w) {c : Ck} {v : Nat -> CV} (h : Zz (ZbF hp n c v k) φ) (o : Obj) (t : Nat)
  (hc : ∀ τ, Le σ τ -> τ (idN n) = some (w.heap.size, t) -> holds τ { w with heap := w.heap.push o } w.heap.size t c) :
  ∃ σ', σ' (idN n) = some (w.heap.size, t) /\ Rel w0 σ' (Zag hp (idN n) c) (n + 1) { w with heap := w.heap.push o } /\ Ex n σ σ' /\ Nle n (n + 1) /\ Zz (k (v (idN n)) (Zag hp (idN n) c) (n + 1)) φ := by
 unfold ZbF at h
 obtain ⟨h1, h2⟩ := h.bif
 have h1 : idN n < Y1 n := by simpa [Nat.blt_eq] using h1
 obtain ⟨e1, e2⟩ := ZlA h1 hR.lim
 have hf : σ (idN n) = none := hR.fresh _ (ZIQ _) h1
 refine ⟨_, Zau _ _ _, hR.new (by have := hR.lim; omega) hf o hc e2 (fun j hj _ => ⟨by omega, by omega⟩), ⟨Le.upd hf, fun i hi => ?_⟩, ⟨by omega, e2⟩, h2⟩
 unfold ZoX
 rw [if_neg (fun e => hi ⟨by omega, by omega⟩)]
theorem Row.new {w : World} {vs : List Value} {arr : Array Value} {ty : TypeId} {fz : Bool} {spare : List Value} (h : arr.toList = vs ++ spare) : Row { w with heap := w.heap.push (.cells arr ty) } w.heap.size arr.size vs fz :=
 ⟨arr, ty, 0, 0, Yv w _, rfl, ⟨spare, h⟩, .inl ⟨rfl, rfl⟩⟩
theorem YI (t : TypeId) (cells : Array Value) (w : World) : (newRow t cells).run P w = .ok ⟨w.heap.size, 0, none⟩ { w with heap := w.heap.push (.cells cells t) } := by
 simp [newRow, newObj, Sem.run]
theorem Zrr (t : TypeId) (v : Value) (w : World) : (newVar t v).run P w = .ok ⟨w.heap.size, 0, none⟩ { w with heap := w.heap.push (.cells v.cells t) } := YI t v.cells w
theorem ZqT (hR : Rel w0 σ hp n w) {cs : List CV} {v : Value} {t : TypeId} (hc : VRs σ cs v.cells.toList) (h : Zz (Zu1 hp n cs k) φ) :
  LR P w0 σ n w (do pure (Next.value (<- (do pure (.pointer (some (<- newVar t v))) : Sem Value))) : Sem Next) k φ := by
 obtain ⟨σ', s1, s2, s3, s4, s5⟩ := ZQ hR h (.cells v.cells t) v.cells.size (fun τ hle _ => ⟨_, hc.mono hle, Row.new (spare := []) (by simp)⟩)
 exact LR.val (v := .pointer (some ⟨w.heap.size, 0, none⟩)) (by simp [Zrr]) (by simp only [VR]; exact ⟨_, _, s1, rfl⟩) s2 s3 s4 s5
theorem ZEK (hR : Rel w0 σ hp n w) {t : Nat} (h : Zz (Zwy P hp n t k) φ) : LR P w0 σ n w (do pure (Next.value (<- Instr.alloc t true (.tuple #[]))) : Sem Next) k φ := by
 unfold Zwy at h
 split at h
 ·rename_i cs hz
  obtain ⟨i, zv, z1, z2, z3⟩ := Y6 (σ := σ) hz
  have := ZqT (P := P) (t := t) hR z3 h
  have e : ∀ w, (Instr.alloc t true (.tuple #[])).run P w = (do pure (.pointer (some (<- newVar t zv))) : Sem Value).run P w := by
   intro w; simp [Instr.alloc, Zv z1 z2]
  obtain ⟨w', c, hp', n', σ', h1, h2⟩ := this
  refine ⟨w', c, hp', n', σ', ?_, h2⟩
  rcases h1 with ⟨v, hv, hr⟩ | ⟨hv, hr⟩
  ·refine .inl ⟨v, ?_, hr⟩
   rw [<- hv]
   show (Sem.bind _ _).run P w = (Sem.bind _ _).run P w
   rw [Sem.run_bind', Sem.run_bind', e]
  ·refine .inr ⟨?_, hr⟩
   rw [<- hv]
   show (Sem.bind _ _).run P w = (Sem.bind _ _).run P w
   rw [Sem.run_bind', Sem.run_bind', e]
 ·exact h.no.elim
theorem l_box (hR : Rel w0 σ hp n w) (hL : ∀ x, VR σ (lk fr x) (ev x)) {t : Nat} {x : Operand} (h : Zz (lBox fr hp n t x k) φ) : LR P w0 σ n w (do pure (Next.value (<- Instr.box t (ev x))) : Sem Next) k φ := by
 unfold lBox at h
 split at h
 ·exact h.no.elim
 ·rename_i hj
  exact ZqT hR (ZjZ hj (hL x)) h
/-! ### Writing -/
theorem Zdj : ∀ {cs : List CV} {vs : List Value}, VRs σ cs vs -> ZeU cs = true -> ∀ v ∈ vs, v.oneCell' = true
 | [], vs, h, _, v, hv => by simp only [VRs] at h; subst h; cases hv
 | c :: cs, vs, h, ha, v, hv => by
  simp only [VRs] at h; obtain ⟨u, ws, rfl, h1, h2⟩ := h
  unfold ZeU at ha
  cases hc : ZA7 c
  ·rw [hc] at ha; cases ha
  ·rw [hc] at ha; simp only [cond_true] at ha
   rcases List.mem_cons.1 hv with rfl | hv
   ·cases c <;> simp only [VR] at h1 <;> first | (cases hc; done) | (subst h1; rfl) | (obtain ⟨_, _, _, _, _, rfl, _⟩ := h1; rfl) | (obtain ⟨_, _, _, _, rfl⟩ := h1; rfl) | (obtain ⟨_, _, _, rfl⟩ := h1; rfl) | (obtain ⟨_, _, rfl⟩ := h1; rfl)
   ·exact Zdj h2 ha v hv
theorem ZbB (g o : Nat) (t : TypeId) (fz : Nat × Nat) : ∀ (vs : List Value) (i : Nat) (cur : Array Value) (w : World), w.heap[g]? = some (.cells cur t fz) -> (fz = (0, 0) \/ cur.size <= fz.1) -> o + i + vs.length <= cur.size -> (∀ v ∈ vs, v.oneCell' = true) →
  (storeCells ⟨g, o, none⟩ vs i).run P w = .ok () (w.setRow g (cur.toList.take (o + i) ++ vs ++ cur.toList.drop (o + i + vs.length)).toArray)
 | [], i, cur, w, hg, _, _, _ => by
  simp only [storeCells, List.append_nil, List.length_nil, Nat.add_zero, List.take_append_drop, Array.toArray_toList]
  rw [setRow_self w g cur t fz hg]
  rfl
 | v :: rest, i, cur, w, hg, hfz, hl, h1 => by
  have hi : o + i < cur.size := by simp at hl; omega
  have hcell : w.cell? ⟨g, o + i, none⟩ = some cur[o + i] := by simp [World.cell?, hg, hi]
  have hfro : w.frozen? ⟨g, o + i, none⟩ = false := by
   obtain ⟨lo, hi'⟩ := fz
   simp only [World.frozen?, hg]
   rcases hfz with h | h
   ·cases h; simp
   ·simp at h ⊢; omega
  have hst : (store ((⟨g, o, none⟩ : Addr).add i) v).run P w = .ok () (w.setRow g (cur.setIfInBounds (o + i) v)) := by
   rw [add_eq, run_store P w _ v _ (h1 v (by simp)), hcell]
   simp [hfro, setCell_eq_setRow w g (o + i) cur t fz v hg]
  have ih := ZbB g o t fz rest (i + 1) (cur.setIfInBounds (o + i) v) (w.setRow g (cur.setIfInBounds (o + i) v)) (setRow_heap w g cur _ t _ hg) (by simpa using hfz) (by simp at hl ⊢; omega) (fun x hx => h1 x (by simp [hx]))
  simp only [storeCells, Sem.run_bind, hst, Result.andThen_ok, ih, setRow_setRow]
  congr 3
  have e := list_seg_step cur.toList (o + i) v rest (by simp at hl ⊢; omega)
  simpa [Array.toList_setIfInBounds, Nat.add_assoc] using e
theorem ZkW (w : World) (g k : Nat) (cs : Array Value) (h : k ≠ g) : (w.setRow g cs).heap[k]? = w.heap[k]? := by
 unfold World.setRow
 show (w.heap.modify g _)[k]? = _
 rw [Array.getElem?_modify, if_neg (fun e => h e.symm)]
theorem Zny (w : World) (g : Nat) (cs : Array Value) : (w.setRow g cs).heap.size = w.heap.size := by
 unfold World.setRow; simp
theorem Row.write {p t : Nat} {vs : List Value} {fz : Bool} (h : Row w p t vs fz) {o : Nat} {new : List Value} (h1 : o <= vs.length) (hfit : o + new.length <= t) (hone : ∀ v ∈ new, v.oneCell' = true) :
  ∃ w', (storeCells ⟨p, o, none⟩ new).run P w = .ok () w' /\ Row w' p t (vs.take o ++ new ++ vs.drop (o + new.length)) fz /\ w'.heap.size = w.heap.size /\ (∀ k, k ≠ p -> w'.heap[k]? = w.heap[k]?) ∧
   w'.os = w.os /\ w'.tape = w.tape /\ w'.output = w.output := by
 obtain ⟨arr, ty, lo, hi, g1, g2, ⟨sp, g3⟩, g4⟩ := h
 have hfz : (lo, hi) = (0, 0) \/ arr.size <= (lo, hi).1 := by
  rcases g4 with ⟨rfl, rfl⟩ | ⟨_, g⟩
  ·exact .inl rfl
  ·exact .inr (by rw [g2]; exact g)
 have hr := ZbB (P := P) p o ty (lo, hi) new 0 arr w g1 hfz (by rw [g2]; omega) hone
 refine ⟨_, hr, ⟨_, ty, lo, hi, setRow_heap w p arr _ ty _ g1, ?_, ⟨sp.drop (o + new.length - vs.length), ?_⟩, g4⟩, Zny _ _ _, fun k hk => ZkW _ _ _ _ hk, rfl, rfl, rfl⟩
 ·have : arr.toList.length = t := by simpa using g2
  simp only [List.size_toArray, ZI5, ZI2, ZJe, Nat.add_zero]; omega
 ·simp only [Nat.add_zero]
  rw [g3, List.take_append_of_le_length h1, List.drop_append, ZJo, ZJo, ZJo]
theorem ZdW {c : CV} {x : Nat} (h : Zrf c = some x) : c = .int 4 (.ofNat x) /\ x < 256 := by
 unfold Zrf at h
 split at h
 ·rename_i m
  obtain ⟨h1, h2⟩ := ZdN h
  cases h2
  have := ZJd h1
  exact ⟨rfl, by omega⟩
 ·cases h
theorem ZcG : ∀ {cs : List CV} {x : Nat} {vs : List Value}, ZgQ cs = some x -> VRs σ cs vs -> vs = (bys cs.length x).map Zd6
 | [], x, vs, h, hv => by simp only [VRs] at hv; subst hv; rfl
 | c :: cs, x, vs, h, hv => by
  simp only [VRs] at hv; obtain ⟨u, ws, rfl, h1, h2⟩ := hv
  unfold ZgQ at h
  split at h
  ·rename_i y hy
   split at h
   ·rename_i z hz
    cases h
    obtain ⟨rfl, hlt⟩ := ZdW hy
    have ih := ZcG hz h2
    simp only [VR] at h1; subst h1
    simp only [ZJk, bys, ZI9]
    rw [show (y + 256 * z) % 256 = y by omega, show (y + 256 * z) / 256 = z by omega, <- ih]
    congr 1
    simp only [Zd6, kc]; congr 1; rw [Zqg y hlt]; rfl
   ·cases h
  ·cases h
theorem Zjk (l : List UInt8) : ∀ v ∈ l.map Zd6, v.oneCell' = true := by
 intro v hv; obtain ⟨b, _, rfl⟩ := List.mem_map.1 hv; rfl
theorem Zu2 (hR : Rel w0 σ hp n w) {b o p t : Nat} {cs : List CV} {vs : List Value} {hp' : H} (h : wrN hp b o cs = some hp') (hs : σ b = some (p, t)) (hv : VRs σ cs vs) :
  ∃ w', (storeCells ⟨p, o, none⟩ vs).run P w = .ok () w' /\ Rel w0 σ hp' n w' := by
 unfold wrN at h
 split at h
 ·rename_i old hc
  obtain ⟨ha, h⟩ := ZdN h
  split at h
  ·rename_i new hn
   cases h
   obtain ⟨ws, h1, h2⟩ := hR.at hs hc (by simp)
   obtain ⟨g1, g2⟩ := VRs.put hv h1 hn
   have hle : ws.length <= t := by obtain ⟨arr, _, _, _, _, q1, ⟨sp, q2⟩, _⟩ := h2; have := congrArg List.length q2; simp at this; omega
   obtain ⟨w', r1, r2, r3, r4, r5, r6, r7⟩ := h2.write (P := P) (o := o) (new := vs) (by omega) (by omega) (Zdj hv ha)
   exact ⟨w', r1, hR.upd hs (by rw [hc]; simp) r3 r4 r5 r6 r7 ⟨_, g1, r2⟩⟩
  ·cases h
 ·rename_i l m hc
  obtain ⟨ha, h⟩ := ZdN h
  have ha := ZJd ha
  split at h
  ·rename_i x hx
   cases h
   have h2 := hR.at hs hc (by simp)
   have hvs := ZcG hx hv
   have hvl : vs.length = cs.length := hv.len.symm
   have hle : l <= t := by obtain ⟨arr, _, _, _, _, q1, ⟨sp, q2⟩, _⟩ := h2; have := congrArg List.length q2; simp [Zw] at this; omega
   obtain ⟨w', r1, r2, r3, r4, r5, r6, r7⟩ := Row.write (P := P) (o := o) (new := vs) h2 (by simp [Zw]; omega) (by omega) (by rw [hvs]; exact Zjk _)
   refine ⟨w', r1, hR.upd hs (by rw [hc]; simp) r3 r4 r5 r6 r7 ?_⟩
   show Row w' p t ((bys l (ZDt m o cs.length x l)).map Zd6) true
   rw [Zvb _ _ _ _ _ ha, ZJg, ZJg, <- hvs, List.map_take, List.map_drop, <- hvl]
   exact r2
  ·cases h
 ·cases h
theorem ZEU (hR : Rel w0 σ hp n w) (hL : ∀ x, VR σ (lk fr x) (ev x)) {t : Nat} {a x : Operand} (h : Zz (ZuQ P fr hp n t a x k) φ) : LR P w0 σ n w (do Instr.storeAt t (ev a) (ev x); pure Next.skip : Sem Next) k φ := by
 unfold ZuQ at h
 have ha := hL a
 split at h
 ·rename_i b o he
  rw [he] at ha; simp only [VR] at ha
  obtain ⟨p, u, hs, hv⟩ := ha
  split at h
  ·rename_i sz hsz
   split at h
   ·exact h.no.elim
   ·rename_i hj
    obtain ⟨h1, h2⟩ := h.bif
    clear h
    have h1 := ZI1 h1
    have hc := ZjZ hj (hL x)
    split at h2
    ·rename_i hp' hw
     obtain ⟨w', r1, r2⟩ := Zu2 (P := P) hR hw hs hc
     refine LR.unit (w' := w') ?_ r2 (Ex.refl _ _) (Nle.refl _) h2
     rw [hv]
     have hsize : (ev x).cells.size = sz := by rw [<- Array.length_toList, <- hc.len, h1]
     simp [Instr.storeAt, Instr.sureAddr, storeVar, YZ hsz, hsize, r1]
    ·exact h2.no.elim
  ·exact h.no.elim
 ·exact h.no.elim
end
end Go.Cx
namespace Go.Cx
open Go.RowKit (Below)
theorem Zc2 (z : List Value) : ∀ n : Nat, (List.range (n * z.length)).map (fun i => z[i % z.length]!) = (List.replicate n z).flatten
 | 0 => by simp
 | n + 1 => by
  rw [Nat.succ_mul, Nat.add_comm, List.range_add, ZJg, List.replicate_succ, List.flatten_cons, <- Zc2 z n]
  congr 1
  ·apply List.ext_getElem (by simp)
   intro i h1 h2
   simp at h1
   simp [Nat.mod_eq_of_lt h2, h2]
  ·rw [List.map_map]
   apply List.map_congr_left
   intro i _
   simp
theorem Z0 (z : Array Value) (n : Nat) : ((Array.range (n * z.size)).map (fun i => z[i % z.size]!)).toList = (List.replicate n z.toList).flatten := by
 rw [<- Zc2]
 simp [Array.toList_map, Array.toList_range]
 intro a _
 rw [getElem!_def]
 split <;> simp_all
section
variable {P : Program} {w0 : World} {σ : Sg} {hp : H} {n : Nat} {w : World} {fr : F} {ev : Operand -> Value} {k : KS} {φ : Out -> Prop}
theorem Zje : ∀ m : Nat, (bys m 0).map Zd6 = List.replicate m (.int .u8 0)
 | 0 => rfl
 | m + 1 => by simp only [bys, ZI9, List.replicate_succ]; rw [show (0 : Nat) / 256 = 0 from rfl, Zje m]; rfl
theorem Zr4 {e sz m : Nat} {ck : Ck} (h : Zo8 P e sz m = some ck) : ∃ i zv, P.info? e = some i /\ i.zero = some zv /\ zv.cells.size = sz ∧
  ∀ (τ : Sg) (w : World) (p t : Nat), Row w p t (List.replicate m zv.cells.toList).flatten false -> holds τ w p t ck := by
 unfold Zo8 at h
 split at h
 ·rename_i z hz
  obtain ⟨hl, h2⟩ := ZdN h
  have hl := ZI1 hl
  obtain ⟨i, zv, z1, z2, z3⟩ := Y6 (σ := fun _ => none) hz
  have z3' : ∀ τ : Sg, VRs τ z zv.cells.toList := fun τ => by
   obtain ⟨i', zv', y1, y2, y3⟩ := Y6 (σ := τ) hz
   rw [z1] at y1; cases y1; rw [z2] at y2; cases y2; exact y3
  have hsz : zv.cells.size = sz := by rw [<- Array.length_toList, <- z3.len, hl]
  refine ⟨i, zv, z1, z2, hsz, fun τ w p t hr => ?_⟩
  cases hu : Zf5 P e
  ·rw [hu] at h2; cases h2
   exact ⟨_, (z3' τ).rep m, hr⟩
  ·rw [hu] at h2; simp only [cond_true] at h2
   split at h2
   ·rename_i c
    split at h2
    ·rename_i hc
     cases h2
     obtain ⟨rfl, _⟩ := ZdW hc
     have := z3' τ
     simp only [VRs, VR] at this
     obtain ⟨v, ws, e1, e2, e3⟩ := this
     subst e2; subst e3
     show Row w p t ((bys m 0).map Zd6) true
     rw [Zje]
     rw [e1] at hr
     obtain ⟨arr, ty, lo, hi, q1, q2, q3, q4⟩ := hr
     refine ⟨arr, ty, lo, hi, q1, q2, ?_, ?_⟩
     ·simpa [List.flatten_replicate_singleton, kc] using q3
     ·rcases q4 with q4 | ⟨q4, _⟩
      ·exact .inl q4
      ·cases q4
    ·cases h2
   ·cases h2
 ·cases h
theorem Zzi {cs : List CV} : ∀ {o : Nat} {l r : List CV}, ZuV cs o l = some r -> r.length = l.length := by
 have h0 : ∀ {cs l r : List CV}, ZhW cs l = some r -> r.length = l.length := by
  intro cs
  induction cs with
  | nil => intro l r h; simp only [ZhW] at h; cases h; rfl
  | cons c cs ih =>
   intro l r h
   cases l with
   | nil => simp only [ZhW] at h; cases h
   | cons x l =>
    simp only [ZhW] at h
    split at h
    ·rename_i q hq; cases h; simp [ih hq]
    ·cases h
 intro o
 induction o with
 | zero => intro l r h; simp only [ZuV] at h; exact h0 h
 | succ o ih =>
  intro l r h
  cases l with
  | nil => simp only [ZuV] at h; cases h
  | cons x l =>
   simp only [ZuV] at h
   split at h
   ·rename_i q hq; cases h; simp [ih hq]
   ·cases h
theorem ZlK {place : Nat -> Option (Nat × Nat)} : ∀ (parts : List (Nat × Operand)) (cs r : List CV), ZmJ place fr parts cs = some r -> r.length = cs.length
 | [], cs, r, h => by cases h; rfl
 | (i, x) :: rest, cs, r, h => by
  unfold ZmJ at h
  split at h
  ·obtain ⟨_, h⟩ := ZdN h
   split at h
   ·rename_i q hq
    rw [ZlK rest _ _ h, Zzi hq]
   ·cases h
  ·cases h
theorem Zro {c : Nat} (h : c <= 140737488355328) : IntKind.i64.wrap (c : Int) = c := by
 simp [IntKind.wrap, IntKind.bits, IntKind.signed]; omega
theorem ZEf (hR : Rel w0 σ hp n w) (hL : ∀ x, VR σ (lk fr x) (ev x)) {t : Nat} {x y : Operand} (h : Zz (ZxI P fr hp n t x y k) φ) :
  LR P w0 σ n w (do pure (Next.value (<- Instr.makeSlice t (ev x) (ev y))) : Sem Next) k φ := by
 unfold ZxI at h
 have hx := hL x
 have hy := hL y
 split at h
 ·rename_i k1 l k2 c e1 e2
  rw [e1] at hx; rw [e2] at hy
  simp only [VR] at hx hy
  obtain ⟨g1, h2⟩ := h.bif
  clear h
  have g1 := ZJd g1
  split at h2
  ·rename_i e hd
   have hu := Zd hd
   split at h2
   ·rename_i i hi
    have hi := Zaa hi
    obtain ⟨g2, h3⟩ := h2.bif
    obtain ⟨g3, h4⟩ := h3.bif
    obtain ⟨g4, h5⟩ := h4.bif
    clear h2 h3 h4
    have g2 := ZJd g2
    have g3 := ZJd g3
    have g4 := ZJd g4
    split at h5
    ·rename_i ck hck
     obtain ⟨i', zv, z1, z2, z3, z4⟩ := Zr4 hck
     rw [hi] at z1; cases z1
     have hcells : ((Array.range (c * i.size)).map (fun j => zv.cells[j % zv.cells.size]!)).toList = (List.replicate c zv.cells.toList).flatten := by
      rw [<- z3]; exact Z0 zv.cells c
     obtain ⟨σ', s1, s2, s3, s4, s5⟩ := ZQ hR h5 (.cells ((Array.range (c * i.size)).map (fun j => zv.cells[j % zv.cells.size]!)) e) (c * i.size)
      (fun τ hle _ => z4 τ _ _ _ (by
       have := Row.new (w := w) (vs := (List.replicate c zv.cells.toList).flatten) (arr := (Array.range (c * i.size)).map (fun j => zv.cells[j % zv.cells.size]!)) (ty := e) (fz := false) (spare := []) (by rw [hcells]; simp)
       simpa using this))
     refine LR.val (v := .slice (some ⟨w.heap.size, 0, none⟩) l c) ?_ ?_ s2 s3 s4 s5
     ·rw [hx, hy]
      have hz : (zeroValue e).run P w = .ok zv w := Zv hi z2 w
      have hsz : (sizeOf e).run P w = .ok i.size w := by simp [sizeOf, typeInfo, hi]
      have big : ¬ ((i.bytes : Int) * (c : Int) > 281474976710656) := by
       have : ((i.bytes * c : Nat) : Int) = (i.bytes : Int) * (c : Int) := by push_cast; rfl
       omega
      by_cases hc0 : c * i.size = 0
      ·have hc : c = 0 := by
        rcases Nat.mul_eq_zero.1 hc0 with h | h
        ·exact h
        ·omega
       subst hc
       have hl : l = 0 := by omega
       subst hl
       have w0' : IntKind.i64.wrap (Int.ofNat 0) = 0 := rfl
       simp only [Instr.makeSlice, Sem.run_bind, run_underlying hu, Result.andThen_ok, asInt, asIntOf, Sem.run_pure, typeInfo, run_program, hi, w0']
       simp [hsz, YI]
       rw [show Array.range 0 = #[] from rfl]; simp
      ·have w1 : IntKind.i64.wrap (Int.ofNat c) = (c : Int) := Zro g2
       have w2 : IntKind.i64.wrap (Int.ofNat l) = (l : Int) := Zro (by omega)
       simp only [Instr.makeSlice, Sem.run_bind, run_underlying hu, Result.andThen_ok, asInt, asIntOf, Sem.run_pure, typeInfo, run_program, hi, w1, w2]
       have hcl : ¬ ((c : Int) < (l : Int)) := by omega
       have hneg : ∀ m : Nat, ¬ ((m : Int) < 0) := fun m => by omega
       have hc0' : ¬ (c = 0 \/ i.size = 0) := fun h => hc0 (by rcases h with h | h <;> rw [h] <;> simp)
       simp [hsz, hz, YI, show ¬ (281474976710656 < (i.bytes : Int) * (c : Int)) by omega, hneg, hcl, hc0']
       exact fun h => absurd h hc0
     ·simp only [VR]
      exact ⟨_, _, _, _, s1, rfl, g1, ZIQ _, fun _ => rfl, fun _ => rfl, by omega, fun e => (by cases e)⟩
    ·exact h5.no.elim
   ·exact h2.no.elim
  ·exact h2.no.elim
 ·exact h.no.elim
theorem ZB3 (hR : Rel w0 σ hp n w) (hL : ∀ x, VR σ (lk fr x) (ev x)) {t : Nat} {r : Option Operand} (h : Zz (ZtM P fr hp n t r k) φ) :
  LR P w0 σ n w (do pure (Next.value (<- Instr.makeMap t (r.map ev))) : Sem Next) k φ := by
 unfold ZtM at h
 split at h
 ·rename_i kt et hd
  have hu := Zd hd
  have mk : ∀ {h : Zz (ZbF hp n (.map [] 0) (fun b => .map b) k) φ}, (Instr.makeMap t (r.map ev)).run P w = .ok (.map (some w.heap.size)) { w with heap := w.heap.push (.map #[] 0) } -> LR P w0 σ n w (do pure (Next.value (<- Instr.makeMap t (r.map ev))) : Sem Next) k φ := fun {h} hrun => by
   obtain ⟨σ', s1, s2, s3, s4, s5⟩ := ZQ hR h (.map #[] 0) 0 (fun τ hle _ => ⟨[], rfl, Yv w _⟩)
   exact LR.val hrun (by simp only [VR]; exact ⟨_, _, s1, rfl⟩) s2 s3 s4 s5
  split at h
  ·exact mk (h := h) (by simp [Instr.makeMap, newObj, Sem.run])
  ·rename_i x
   split at h
   ·rename_i kd i e
    exact mk (h := h) (by simp [Instr.makeMap, newObj, Sem.run, run_underlying hu, ZlS hL e, asInt, asIntOf])
   ·exact h.no.elim
 ·exact h.no.elim
theorem ZzR (hR : Rel w0 σ hp n w) (hL : ∀ x, VR σ (lk fr x) (ev x)) {t len : Nat} {parts : Array (Nat × Operand)} (h : Zz (Zpe P fr hp n t len parts k) φ) :
  LR P w0 σ n w (do pure (Next.value (<- Instr.buildSlice t len (parts.map fun (i, x) => (i, ev x)))) : Sem Next) k φ := by
 unfold Zpe at h
 have hparts : (parts.map fun (i, x) => (i, ev x)).toList = parts.toList.map fun (i, x) => (i, ev x) := by simp
 split at h
 ·rename_i e hd
  have hu := Zd hd
  split at h
  ·rename_i s hs
   obtain ⟨g1, h2⟩ := h.bif
   obtain ⟨g2, h3⟩ := h2.bif
   clear h h2
   have g1 := ZJd g1
   have g2 := ZJd g2
   split at h3
   ·rename_i z hz
    obtain ⟨g3, h4⟩ := h3.bif
    clear h3
    have g3 := ZI1 g3
    obtain ⟨i, zv, z1, z2, z3⟩ := Y6 (σ := σ) hz
    have hsz : zv.cells.size = s := by rw [<- Array.length_toList, <- z3.len, g3]
    split at h4
    ·rename_i cs hcs
     obtain ⟨ws, f1, f2⟩ := Zck hL _ _ _ _ (z3.rep len) hcs
     have hfl := f2.len
     have hcells : ((Array.range (len * s)).map (fun j => zv.cells[j % zv.cells.size]!)) = (List.replicate len zv.cells.toList).flatten.toArray := by
      apply Array.ext'; rw [<- hsz]; simpa using Z0 zv.cells len
     have hrun : (Instr.buildSlice t len (parts.map fun (i, x) => (i, ev x))).run P w = .ok (.slice (some ⟨w.heap.size, 0, none⟩) len len) { w with heap := w.heap.push (.cells ws.toArray e) } := by
      have hzr : (zeroValue e).run P w = .ok zv w := Zv z1 z2 w
      by_cases h0 : len * s = 0
      ·have hl : len = 0 := by
        rcases Nat.mul_eq_zero.1 h0 with h | h
        ·exact h
        ·omega
       subst hl
       simp only [List.replicate_zero, List.flatten_nil] at f1
       have f1' : Instr.fill (fun i => some (i * s, s)) #[] (List.map (fun x => (x.1, ev x.2)) parts.toList) = some ws.toArray := f1
       simp [Instr.buildSlice, run_underlying hu, YZ hs, hparts, YI]
       rw [show Array.range 0 = #[] from rfl, Array.map_empty, f1']
       simp [YI]
      ·rw [<- hcells] at f1
       have h0' : ¬ (len = 0 \/ s = 0) := fun h => h0 (by rcases h with h | h <;> rw [h] <;> simp)
       simp [Instr.buildSlice, run_underlying hu, YZ hs, hparts, hzr, h0', show ¬ (16777216 < len * s) by omega, YI, f1]
       exact fun h => absurd h h0
     have hlen : ws.length = len * s := by
      rw [<- f2.len]
      have e1 := ZlK _ _ _ hcs
      have : ∀ m, (ZAw z m).length = m * z.length := fun m => by
       induction m with
       | zero => simp [ZAw]
       | succ m ih => simp only [ZAw, ZI5, ih, Nat.succ_mul]; omega
      rw [e1, this, g3]
     cases hu8 : Zf5 P e
     ·rw [hu8] at h4; simp only [cond_false] at h4
      obtain ⟨σ', s1, s2, s3, s4, s5⟩ := ZQ hR h4 (.cells ws.toArray e) ws.length (fun τ hle _ => ⟨ws, f2.mono hle, by simpa using Row.new (w := w) (vs := ws) (arr := ws.toArray) (ty := e) (fz := false) (spare := []) (by simp)⟩)
      exact LR.val hrun (by simp only [VR]; exact ⟨_, _, _, _, s1, rfl, ZIQ _, ZIQ _, fun _ => rfl, fun _ => rfl, by omega, fun e => (by cases e)⟩) s2 s3 s4 s5
     ·rw [hu8] at h4; simp only [cond_true] at h4
      split at h4
      ·rename_i x hx
       obtain ⟨hs1, hx⟩ := ZdN hx
       have hb := ZcG hx f2
       have hs1 := ZI1 hs1
       subst hs1
       obtain ⟨σ', s1, s2, s3, s4, s5⟩ := ZQ hR h4 (.cells ws.toArray e) ws.length (fun τ hle _ => by
        have := Row.new (w := w) (vs := ws) (arr := ws.toArray) (ty := e) (fz := true) (spare := []) (by simp)
        show Row _ _ _ ((bys len x).map Zd6) true
        have hcl : cs.length = len := by rw [hfl, hlen]; omega
        rw [<- hcl, <- hb]; simpa using this)
       exact LR.val hrun (by simp only [VR]; exact ⟨_, _, _, _, s1, rfl, ZIQ _, ZIQ _, fun _ => rfl, fun _ => rfl, by omega, fun e => (by cases e)⟩) s2 s3 s4 s5
      ·exact h4.no.elim
    ·exact h4.no.elim
   ·exact h3.no.elim
  ·exact h.no.elim
 ·exact h.no.elim
end
end Go.Cx
namespace Go.Cx
open Go.RowKit (Below)
def Zjc (w : World) (r : Nat) (o : Obj) : World := { w with heap := w.heap.setIfInBounds r o }
section
variable {P : Program} {w0 : World} {σ : Sg} {hp : H} {n : Nat} {w : World} {fr : F} {ev : Operand -> Value} {k : KS} {φ : Out -> Prop}
theorem Zuh {r : Nat} (o : Obj) (h : r < w.heap.size) : (Zjc w r o).heap[r]? = some o := by
 show (w.heap.setIfInBounds r o)[r]? = _; simp [Array.getElem?_setIfInBounds, h]
theorem Rel.put (hR : Rel w0 σ hp n w) {i p t : Nat} (hs : σ i = some (p, t)) (hl : ZO hp i ≠ .no) {o : Obj} {c : Ck} (hc : (Zjc w p o).heap[p]? = some o -> holds σ (Zjc w p o) p t c) : Rel w0 σ (Zag hp i c) n (Zjc w p o) :=
 hR.upd (w' := Zjc w p o) hs hl (by simp [Zjc]) (fun k hk => by show (w.heap.setIfInBounds p o)[k]? = _; rw [Array.getElem?_setIfInBounds, if_neg (fun e => hk e.symm)]) rfl rfl rfl (hc (Zuh o (hR.old _ _ _ hs).2.2))
theorem Ym {r c : Nat} {es : Array MapEntry} (hb : w.heap[r]? = some (.map es c)) : (getObj r).run P w = .ok (.map es c) w := by simp [getObj, Sem.run, hb]
theorem YG {r c : Nat} {es : Array MapEntry} (hb : w.heap[r]? = some (.map es c)) (o : Obj) : (setObj r o).run P w = .ok () (Zjc w r o) := by simp [setObj, Sem.run, hb, Zjc]
theorem Zw4 {d : TypeDesc} {x y : CV} {vx vy : Value} (hx : VR σ x vx) (hy : VR σ y vy) (h : Zn2 x y = some true) : vx = vy /\ Instr.sameBits 10000 vy vx = true := by
 unfold Zn2 at h
 split at h
 ·obtain ⟨h1, h2⟩ := ZdN h
  have := ZI1 h1; subst this
  rw [ZbK] at h2
  simp only [Option.some.injEq, beq_iff_eq] at h2; subst h2
  simp only [VR] at hx hy; subst hx; subst hy
  exact ⟨rfl, by simp [Instr.sameBits]⟩
 ·rw [Zgs] at h
  simp only [Option.some.injEq, beq_iff_eq] at h; subst h
  simp only [VR] at hx hy; subst hx; subst hy
  exact ⟨rfl, by simp [Instr.sameBits]⟩
 ·rw [ZgP] at h
  simp only [Option.some.injEq, beq_iff_eq] at h
  simp only [VR] at hx hy; subst hx; subst hy
  rw [h]
  exact ⟨rfl, by simp only [Instr.sameBits]; rw [beq_toListBytes]; simp⟩
 ·cases h
theorem Zkc {x : CV} {vx : Value} (hx : VR σ x vx) : ∀ {es : List Ent} {ms : List MapEntry} {i j : Nat} {v : CV}, ZD σ es ms -> Zjn x es i = some (some (j, v)) →
  i <= j /\ ∃ e m, es[j - i]? = some e /\ ms[j - i]? = some m /\ m.key = vx /\ Instr.sameBits 10000 m.key vx = true /\ e.val = v /\ VR σ e.val m.val /\ m.born = e.born
 | [], ms, i, j, v, he, h => by cases h
 | e :: es, ms, i, j, v, he, h => by
  unfold ZD at he
  obtain ⟨m, ns, rfl, h1, h2, h3, h4⟩ := he
  unfold Zjn at h
  split at h
  ·rename_i hk
   cases h
   obtain ⟨e1, e2⟩ := Zw4 (d := .bool) hx h1 hk
   refine ⟨ZIQ _, e, m, by simp, by simp, e1.symm, e2, rfl, h2, h3⟩
  ·rename_i hk
   obtain ⟨a, e', m', b1, b2, b3⟩ := Zkc hx h4 h
   refine ⟨by omega, e', m', ?_, ?_, b3⟩
   ·rw [show j - i = (j - (i + 1)) + 1 by omega, List.getElem?_cons_succ]; exact b1
   ·rw [show j - i = (j - (i + 1)) + 1 by omega, List.getElem?_cons_succ]; exact b2
  ·cases h
theorem Zt8 {x v : CV} {vx vv : Value} (hx : VR σ x vx) (hv : VR σ v vv) (f : MapEntry -> MapEntry) (hf : ∀ m, (f m).key = vx /\ (f m).born = m.born) : ∀ {es : List Ent} {ms : List MapEntry} {i : Nat}, ZD σ es ms -> (∀ m, ms[i]? = some m -> (f m).val = vv) -> ZD σ (ZBb x v i es) (ms.modify i f)
 | [], ms, i, he, _ => by cases he; cases i <;> rfl
 | e :: es, ms, i, he, hm => by
  unfold ZD at he
  obtain ⟨m, ns, rfl, h1, h2, h3, h4⟩ := he
  cases i with
  | zero =>
   have := hm m (by simp)
   simp only [ZBb, ZD, List.modify_cons, if_true]
   exact ⟨f m, ns, by simp [List.modify], by rw [(hf m).1]; exact hx, by rw [this]; exact hv, by rw [(hf m).2]; exact h3, h4⟩
  | succ i =>
   simp only [ZBb, ZD]
   exact ⟨m, ns.modify i f, by simp [List.modify], h1, h2, h3, Zt8 hx hv f hf h4 (fun m' hm' => hm m' (by simpa using hm'))⟩
theorem ZD.app {es fs : List Ent} {ms ns : List MapEntry} : ZD σ es ms -> ZD σ fs ns -> ZD σ (es ++ fs) (ms ++ ns) := by
 induction es generalizing ms with
 | nil => intro h k; cases h; simpa using k
 | cons e es ih =>
  intro h k
  unfold ZD at h
  obtain ⟨m, ns', rfl, h1, h2, h3, h4⟩ := h
  simp only [List.cons_append, ZD]
  exact ⟨m, _, rfl, h1, h2, h3, ih h4 k⟩
theorem ZBq : ∀ {es : List Ent} {ms : List MapEntry} {i : Nat}, ZD σ es ms -> ZD σ (ZDR i es) (ms.eraseIdx i)
 | [], ms, i, he => by cases he; simp [ZDR, ZD]
 | e :: es, ms, i, he => by
  unfold ZD at he
  obtain ⟨m, ns, rfl, h1, h2, h3, h4⟩ := he
  cases i with
  | zero => simpa [ZDR] using h4
  | succ i =>
   simp only [ZDR, ZD, List.eraseIdx_cons_succ]
   exact ⟨m, _, rfl, h1, h2, h3, ZBq h4⟩
theorem ZbE (ms : List MapEntry) (i : Nat) (f : MapEntry -> MapEntry) : ms.toArray.modify i f = (ms.modify i f).toArray := by
 apply Array.ext'; simp
theorem ZwF (hR : Rel w0 σ hp n w) (hL : ∀ x, VR σ (lk fr x) (ev x)) {t : Nat} {m x v : Operand} (h : Zz (ZpA P fr hp n t m x v k) φ) :
  LR P w0 σ n w (do Instr.mapUpdate t (ev m) (ev x) (ev v); pure Next.skip : Sem Next) k φ := by
 unfold ZpA at h
 split at h
 ·rename_i kt et ht
  have ht := Zd ht
  obtain ⟨hkk, h2⟩ := h.bif
  clear h
  obtain ⟨d, hk, hd⟩ := Zbq hkk
  have hm := hL m
  split at h2
  ·rename_i b e; rw [e] at hm; simp only [VR] at hm
   obtain ⟨p, u, hs, hv⟩ := hm
   split at h2
   ·rename_i es clock hb
    obtain ⟨ms, g1, g2⟩ := hR.at hs hb (by simp)
    have hck := fun b w => Zbi (P := P) (b := b) hk hd (ev x) w
    split at h2
    ·exact h2.no.elim
    ·rename_i hj
     split at h2
     ·rename_i i u hf
      obtain ⟨r', f1, f2⟩ := Z1 (hL x) hd g1 hf
      cases r' with
      | none => exact f2.elim
      | some q =>
       obtain ⟨j', mv⟩ := q
       obtain ⟨e1, f2⟩ := f2
       subst e1
       obtain ⟨_, e', m', b1, b2, b3, b4, b5, b6, b7⟩ := Zkc (hL x) g1 hf
       simp only [Nat.sub_zero] at b1 b2
       have hfk := fun w => Yj (P := P) hk f1 w
       have hkey : ((ms.toArray[i]?).map (·.key)).getD (ev x) = m'.key := by simp [b2]
       have hstay : (Instr.keyThatStays m'.key (ev x)).run P w = .ok (ev x) w := by
        simp [Instr.keyThatStays, b4]
       refine LR.unit (w' := Zjc w p (.map (ms.toArray.modify i fun e => { e with key := ev x, val := ev v }) clock)) ?_ (hR.put (c := .map (ZBb (lk fr x) (lk fr v) i es) clock) hs (by rw [hb]; simp) (fun hh => ⟨_, ?_, by rw [hh, ZbE]⟩)) (Ex.refl _ _) (Nle.refl _) h2
       ·rw [hv]
        simp only [Instr.mapUpdate, Sem.run_bind, run_underlying ht, Result.andThen_ok, Ym g2, hck, hfk, hkey, hstay, YG g2]
       ·exact Zt8 (hL x) (hL v) (fun e => { e with key := ev x, val := ev v }) (fun m => ⟨rfl, rfl⟩) g1 (fun m hm => rfl)
     ·rename_i hf
      obtain ⟨r', f1, f2⟩ := Z1 (hL x) hd g1 hf
      cases r' with
      | some q => exact f2.elim
      | none =>
       have hfk := fun w => Yj (P := P) hk f1 w
       refine LR.unit (w' := Zjc w p (.map (ms.toArray.push { key := ev x, val := ev v, born := clock }) (clock + 1))) ?_ (hR.put (c := .map (es ++ [⟨lk fr x, lk fr v, clock⟩]) (clock + 1)) hs (by rw [hb]; simp) (fun hh => ⟨ms ++ [{ key := ev x, val := ev v, born := clock }], ?_, by rw [hh]; simp⟩)) (Ex.refl _ _) (Nle.refl _) h2
       ·rw [hv]
        simp only [Instr.mapUpdate, Sem.run_bind, run_underlying ht, Result.andThen_ok, Ym g2, hck, hfk, YG g2]
       ·exact g1.app (by unfold ZD; exact ⟨_, [], rfl, hL x, hL v, rfl, rfl⟩)
     ·exact h2.no.elim
   ·exact h2.no.elim
  ·exact h2.no.elim
 ·exact h.no.elim
theorem Zzj (hR : Rel w0 σ hp n w) (hL : ∀ x, VR σ (lk fr x) (ev x)) {t ty : Nat} {ts : Array Nat} (h0 : ts[0]? = some t) {m x : Operand} (h : Zz (ZnV P fr hp n t m x k) φ) :
  LR P w0 σ n w (do pure (Next.value (<- Builtin.delete_ ts ty #[ev m, ev x])) : Sem Next) k φ := by
 unfold ZnV at h
 split at h
 ·rename_i kt et ht
  have ht := Zd ht
  obtain ⟨hkk, h2⟩ := h.bif
  clear h
  obtain ⟨d, hk, hd⟩ := Zbq hkk
  have hm := hL m
  have hck := fun b w => Zbi (P := P) (b := b) hk hd (ev x) w
  split at h2
  ·rename_i e; rw [e] at hm; simp only [VR] at hm
   refine LR.val (v := .tuple #[]) ?_ (by simp only [VR, VRs]; exact ⟨[], rfl, rfl⟩) hR (Ex.refl _ _) (Nle.refl _) h2
   rw [hm]; simp [Builtin.delete_, h0, run_underlying ht, hck]
  ·rename_i b e; rw [e] at hm; simp only [VR] at hm
   obtain ⟨p, u, hs, hv⟩ := hm
   split at h2
   ·rename_i es clock hb
    obtain ⟨ms, g1, g2⟩ := hR.at hs hb (by simp)
    have hself : Zjc w p (.map ms.toArray clock) = w := by
     obtain ⟨hlt, hval⟩ := Array.getElem?_eq_some_iff.1 g2
     unfold Zjc
     have : w.heap.setIfInBounds p (.map ms.toArray clock) = w.heap := by
      apply Array.ext (by simp)
      intro i h1 h2
      rw [Array.getElem_setIfInBounds]
      split
      ·rename_i e; subst e; exact hval.symm
      ·rfl
     rw [this]
    split at h2
    ·rename_i i u hf
     obtain ⟨r', f1, f2⟩ := Z1 (hL x) hd g1 hf
     cases r' with
     | none => exact f2.elim
     | some q =>
      obtain ⟨j', mv⟩ := q
      obtain ⟨e1, f2⟩ := f2
      subst e1
      have hfk := fun w => Yj (P := P) hk f1 w
      refine LR.val (v := .tuple #[]) (w' := Zjc w p (.map (ms.toArray.eraseIdxIfInBounds i) clock)) ?_ (by simp only [VR, VRs]; exact ⟨[], rfl, rfl⟩) (hR.put (c := .map (ZDR i es) clock) hs (by rw [hb]; simp) (fun hh => ⟨ms.eraseIdx i, ZBq g1, by rw [hh]; congr 2; apply Array.ext'; simp⟩)) (Ex.refl _ _) (Nle.refl _) h2
      rw [hv]
      simp [Builtin.delete_, h0, run_underlying ht, Ym g2, hck, hfk, YG g2]
    ·rename_i hf
     obtain ⟨r', f1, f2⟩ := Z1 (hL x) hd g1 hf
     cases r' with
     | some q => exact f2.elim
     | none =>
      have hfk := fun w => Yj (P := P) hk f1 w
      refine LR.val (v := .tuple #[]) (w' := w) ?_ (by simp only [VR, VRs]; exact ⟨[], rfl, rfl⟩) hR (Ex.refl _ _) (Nle.refl _) h2
      rw [hv]
      simp [Builtin.delete_, h0, run_underlying ht, Ym g2, hck, hfk, YG g2, hself]
    ·exact h2.no.elim
   ·exact h2.no.elim
  ·exact h2.no.elim
 ·exact h.no.elim
end
end Go.Cx
namespace Go.Cx
open Go.RowKit (Below)
section
variable {P : Program} {w0 : World} {σ : Sg} {hp : H} {n : Nat} {w : World} {fr : F} {ev : Operand -> Value} {k : KS} {φ : Out -> Prop}
theorem ZqC : ∀ (es : List Ent) (i : Nat), ZrO i es = es[i]?
 | [], i => by simp [ZrO]
 | e :: es, 0 => by simp [ZrO]
 | e :: es, i + 1 => by simp [ZrO, ZqC es i]
theorem Zo4 {a b : CV} {va vb : Value} (ha : VR σ a va) (hb : VR σ b vb) : VR σ (.tup [a, b]) (.tuple #[va, vb]) := by
 simp only [VR, VRs]; exact ⟨_, ⟨_, _, rfl, ha, _, _, rfl, hb, rfl⟩, rfl⟩
theorem ZBt {a b c : CV} {va vb vc : Value} (ha : VR σ a va) (hb : VR σ b vb) (hc : VR σ c vc) : VR σ (.tup [a, b, c]) (.tuple #[va, vb, vc]) := by
 simp only [VR, VRs]; exact ⟨_, ⟨_, _, rfl, ha, _, _, rfl, hb, _, _, rfl, hc, rfl⟩, rfl⟩
theorem Zca : VR σ (.tup []) (.tuple #[]) := by simp only [VR, VRs]; exact ⟨[], rfl, rfl⟩
theorem Zjd (m : Nat) : VR σ (.int 3 (.ofNat m)) (goInt m) := by simp only [VR]; rfl
theorem ZrP (hR : Rel w0 σ hp n w) (hL : ∀ x, VR σ (lk fr x) (ev x)) {t : Nat} {m x : Operand} (h : Zz (Zgx P fr hp n t m x k) φ) :
  LR P w0 σ n w (do pure (Next.value (<- Instr.mapEntry t (ev m) (ev x))) : Sem Next) k φ := by
 unfold Zgx at h
 split at h
 ·rename_i kt et ht
  have ht := Zd ht
  obtain ⟨hkk, h2⟩ := h.bif
  clear h
  obtain ⟨d, hk, hd⟩ := Zbq hkk
  have hm := hL m
  split at h2
  ·rename_i b e; rw [e] at hm; simp only [VR] at hm
   obtain ⟨p, u, hs, hv⟩ := hm
   split at h2
   ·rename_i es clock hb
    obtain ⟨ms, g1, g2⟩ := hR.at hs hb (by simp)
    have hck := fun b w => Zbi (P := P) (b := b) hk hd (ev x) w
    split at h2
    ·rename_i i v hf
     obtain ⟨r', f1, f2⟩ := Z1 (hL x) hd g1 hf
     cases r' with
     | none => exact f2.elim
     | some q =>
      obtain ⟨j', mv⟩ := q
      obtain ⟨e1, f2⟩ := f2
      subst e1
      obtain ⟨_, e', m', b1, b2, b3, b4, b5, b6, b7⟩ := Zkc (hL x) g1 hf
      simp only [Nat.sub_zero] at b1 b2
      rw [ZqC, b1] at h2
      simp only at h2
      have hfk := fun w => Yj (P := P) hk f1 w
      have hkey : ((ms.toArray[i]?).map (·.key)).getD (ev x) = m'.key := by simp [b2]
      have hborn : ((ms.toArray[i]?).map (fun x => (x.born : Int))).getD 0 = (e'.born : Int) := by simp [b2, b7]
      have hstay : (Instr.keyThatStays m'.key (ev x)).run P w = .ok (ev x) w := by
       simp [Instr.keyThatStays, b4]
      refine LR.val (v := .tuple #[mv, goInt e'.born]) (w' := Zjc w p (.map (ms.toArray.modify i fun e => { e with key := ev x }) clock)) ?_ (Zo4 f2 (Zjd _)) (hR.put (c := .map (ZBb (lk fr x) v i es) clock) hs (by rw [hb]; simp) (fun hh => ⟨_, ?_, by rw [hh, ZbE]⟩)) (Ex.refl _ _) (Nle.refl _) h2
      ·rw [hv]
       simp only [Instr.mapEntry, Sem.run_bind, run_underlying ht, Result.andThen_ok, Ym g2, hck, hfk, hkey, hstay, YG g2, hborn]
       rfl
      ·subst b5
       exact Zt8 (vv := m'.val) (hL x) b6 (fun e => { e with key := ev x }) (fun m => ⟨rfl, rfl⟩) g1 (fun m hm => by rw [b2] at hm; cases hm; rfl)
    ·rename_i hf
     obtain ⟨r', f1, f2⟩ := Z1 (hL x) hd g1 hf
     cases r' with
     | some q => exact f2.elim
     | none =>
      split at h2
      ·rename_i v hz
       obtain ⟨i, zv, z1, z2, z3⟩ := Ze0 (σ := σ) hz
       have hzr := fun w => Zv (P := P) z1 z2 w
       have hfk := fun w => Yj (P := P) hk f1 w
       refine LR.val (v := .tuple #[zv, goInt clock]) (w' := Zjc w p (.map (ms.toArray.push { key := ev x, val := zv, born := clock }) (clock + 1))) ?_ (Zo4 z3 (Zjd _)) (hR.put (c := .map (es ++ [⟨lk fr x, v, clock⟩]) (clock + 1)) hs (by rw [hb]; simp) (fun hh => ⟨ms ++ [{ key := ev x, val := zv, born := clock }], ?_, by rw [hh]; simp⟩)) (Ex.refl _ _) (Nle.refl _) h2
       ·rw [hv]
        simp only [Instr.mapEntry, Sem.run_bind, run_underlying ht, Result.andThen_ok, Ym g2, hck, hfk, hzr, YG g2]
        rfl
       ·exact g1.app (by unfold ZD; exact ⟨_, [], rfl, hL x, z3, rfl, rfl⟩)
      ·exact h2.no.elim
    ·exact h2.no.elim
   ·exact h2.no.elim
  ·exact h2.no.elim
 ·exact h.no.elim
theorem ZpM {s : Nat} {v : CV} {vv : Value} (hv : VR σ v vv) : ∀ {es es' : List Ent} {ms : List MapEntry}, ZD σ es ms -> ZpR s v es = some es' →
  ∃ i, ms.findIdx? (fun e => (e.born : Int) == (s : Int)) = some i /\ ZD σ es' (ms.modify i fun e => { e with val := vv })
 | [], es', ms, he, h => by cases h
 | e :: es, es', ms, he, h => by
  unfold ZD at he
  obtain ⟨m, ns, rfl, h1, h2, h3, h4⟩ := he
  unfold ZpR at h
  cases hb : Nat.beq e.born s
  ·rw [hb] at h; simp only [cond_false] at h
   have hne : ¬ ((m.born : Int) = (s : Int)) := by rw [h3]; intro e'; have he9 : e.born = s := (by omega); rw [he9, Nat.beq_refl] at hb; cases hb
   split at h
   ·rename_i r hr
    cases h
    obtain ⟨i, i1, i2⟩ := ZpM hv h4 hr
    refine ⟨i + 1, ?_, ?_⟩
    ·rw [List.findIdx?_cons]; simp only [beq_iff_eq, hne, Bool.false_eq_true, if_false]; rw [i1]; rfl
    ·simp only [List.modify_succ_cons, ZD]; exact ⟨m, _, rfl, h1, h2, h3, i2⟩
   ·cases h
  ·rw [hb] at h; cases h
   have := ZI1 hb
   refine ⟨0, ?_, ?_⟩
   ·rw [List.findIdx?_cons]; simp [h3, this]
   ·simp only [List.modify_zero_cons, ZD]; exact ⟨_, _, rfl, h1, hv, h3, h4⟩
theorem ZkZ (hR : Rel w0 σ hp n w) (hL : ∀ x, VR σ (lk fr x) (ev x)) {t : Nat} {m s v : Operand} (h : Zz (ZdJ fr hp n m s v k) φ) :
  LR P w0 σ n w (do Instr.entryStore t (ev m) (ev s) (ev v); pure Next.skip : Sem Next) k φ := by
 unfold ZdJ at h
 have hm := hL m
 split at h
 ·rename_i b e; rw [e] at hm; simp only [VR] at hm
  obtain ⟨p, u, hs, hv⟩ := hm
  split at h
  ·rename_i es clock hb
   obtain ⟨ms, g1, g2⟩ := hR.at hs hb (by simp)
   split at h
   ·rename_i kd st hst
    have hst := ZlS hL hst
    split at h
    ·exact h.no.elim
    ·rename_i hj
     split at h
     ·rename_i es' hb'
      obtain ⟨i, i1, i2⟩ := ZpM (hL v) g1 hb'
      refine LR.unit (w' := Zjc w p (.map (ms.toArray.modify i fun e => { e with val := ev v }) clock)) ?_ (hR.put (c := .map es' clock) hs (by rw [hb]; simp) (fun hh => ⟨_, i2, by rw [hh, ZbE]⟩)) (Ex.refl _ _) (Nle.refl _) h
      rw [hv, hst]
      have hfi : ms.toArray.findIdx? (fun e => (e.born : Int) == Int.ofNat st) = some i := by
       rw [List.findIdx?_toArray]; exact i1
      simp only [Instr.entryStore, Sem.run_bind, Result.andThen_ok, Ym g2, asInt, asIntOf, Sem.run_pure, hfi, YG g2]
     ·exact h.no.elim
   ·exact h.no.elim
  ·exact h.no.elim
 ·exact h.no.elim
theorem ZB7 (hR : Rel w0 σ hp n w) (hL : ∀ x, VR σ (lk fr x) (ev x)) {t : Nat} {x : Operand} (h : Zz (ZxM P fr hp n t x k) φ) :
  LR P w0 σ n w (do pure (Next.value (<- Instr.range t (ev x))) : Sem Next) k φ := by
 unfold ZxM at h
 have hx := hL x
 have mk : ∀ {c : Ck} (o : Obj), (∀ τ, Le σ τ -> τ (idN n) = some (w.heap.size, 0) -> holds τ { w with heap := w.heap.push o } w.heap.size 0 c) -> Zz (ZbF hp n c (fun b => .ptr b 0) k) φ →
   (Instr.range t (ev x)).run P w = .ok (.pointer (some ⟨w.heap.size, 0, none⟩)) { w with heap := w.heap.push o } -> LR P w0 σ n w (do pure (Next.value (<- Instr.range t (ev x))) : Sem Next) k φ := fun o hc h hrun => by
  obtain ⟨σ', s1, s2, s3, s4, s5⟩ := ZQ hR h o 0 hc
  exact LR.val hrun (by simp only [VR]; exact ⟨_, _, s1, rfl⟩) s2 s3 s4 s5
 split at h
 ·rename_i l m hd e; rw [e] at hx; simp only [VR] at hx
  exact mk (c := .siter l m 0) (.stringIter ⟨(bys l m).toArray⟩ 0) (fun τ hle _ => Yv w _) h (by rw [hx]; simp [Instr.range, run_underlying (Zd hd), newObj, Sem.run])
 ·rename_i kt et hd e; rw [e] at hx; simp only [VR] at hx
  exact mk (c := .iter0) (.mapIter none 0 #[] 0) (fun τ hle _ => Yv w _) h (by rw [hx]; simp [Instr.range, run_underlying (Zd hd), newObj, Sem.run])
 ·rename_i kt et b hd e; rw [e] at hx; simp only [VR] at hx
  obtain ⟨p, u, hs, hv⟩ := hx
  split at h
  ·rename_i es clock hb
   obtain ⟨ms, g1, g2⟩ := hR.at hs hb (by simp)
   exact mk (c := .iter b clock [] clock) (.mapIter (some p) clock #[] clock) (fun τ hle _ => ⟨p, u, hle _ _ hs, Yv w _⟩) h (by rw [hv]; simp [Instr.range, run_underlying (Zd hd), Ym g2, newObj, Sem.run])
  ·exact h.no.elim
 ·exact h.no.elim
theorem ZBe (x : Nat) : ∀ l : List Nat, has x l = l.contains x
 | [] => rfl
 | a :: l => by
  unfold has
  rw [ZBe x l, List.contains_cons]
  by_cases h : a = x
  ·subst h; simp
  ·have : Nat.beq a x = false := by cases hq : Nat.beq a x; rfl; exact absurd (ZI1 hq) h
   rw [this]; simp [Ne.symm h]
theorem Zn9 (seen : List Nat) : ∀ {es : List Ent} {ms : List MapEntry}, ZD σ es ms -> ZD σ (Zlg seen es) (ms.filter fun e => !seen.contains e.born)
 | [], ms, he => by cases he; rfl
 | e :: es, ms, he => by
  unfold ZD at he
  obtain ⟨m, ns, rfl, h1, h2, h3, h4⟩ := he
  unfold Zlg
  rw [ZBe, List.filter_cons, h3]
  cases seen.contains e.born
  ·simp only [cond_false, Bool.not_false, if_true, ZD]; exact ⟨m, _, rfl, h1, h2, h3, Zn9 seen h4⟩
  ·simp only [cond_true, Bool.not_true, Bool.false_eq_true, if_false]; exact Zn9 seen h4
theorem Zph {since : Nat} : ∀ {es : List Ent} {ms : List MapEntry}, ZD σ es ms -> ZmE since es = true -> ∀ m ∈ ms, m.born < since
 | [], ms, he, _, m, hm => by cases he; cases hm
 | e :: es, ms, he, h, m, hm => by
  unfold ZD at he
  obtain ⟨m', ns, rfl, h1, h2, h3, h4⟩ := he
  unfold ZmE at h
  cases hb : Nat.blt e.born since
  ·rw [hb] at h; cases h
  ·rw [hb] at h; simp only [cond_true] at h
   rcases List.mem_cons.1 hm with rfl | hm
   ·rw [h3]; simpa [Nat.blt_eq] using hb
   ·exact Zph h4 h m hm
theorem Zin {f : Ent -> Res} : ∀ {l : List Ent}, Zz (Zyk f l) φ -> ∀ e ∈ l, Zz (f e) φ
 | [], _, e, he => by cases he
 | [a], h, e, he => by
  simp only [ZIT] at he; subst he; exact h
 | a :: b :: l, h, e, he => by
  simp only [Zyk] at h
  obtain ⟨h1, h2⟩ := h.cat
  rcases List.mem_cons.1 he with rfl | he
  ·exact h1
  ·exact Zin h2 e he
theorem ZD.get : ∀ {es : List Ent} {ms : List MapEntry} {i : Nat} {m : MapEntry}, ZD σ es ms -> ms[i]? = some m -> ∃ e, e ∈ es /\ VR σ e.key m.key /\ VR σ e.val m.val /\ m.born = e.born
 | [], ms, i, m, he, h => by cases he; cases h
 | e :: es, ms, i, m, he, h => by
  unfold ZD at he
  obtain ⟨m', ns, rfl, h1, h2, h3, h4⟩ := he
  cases i with
  | zero => simp at h; subst h; exact ⟨e, ZI8, h1, h2, h3⟩
  | succ i =>
   obtain ⟨e', a, b⟩ := ZD.get h4 (by simpa using h)
   exact ⟨e', ZI6 _ a, b⟩
end
end Go.Cx
namespace Go.Cx
open Go.RowKit (Below)
open Go.ChangeMaps (setBlock)
section
variable {P : Program} {w0 : World} {σ : Sg} {hp : H} {n : Nat} {w : World} {fr : F} {ev : Operand -> Value} {k : KS} {φ : Out -> Prop}
theorem ZHo (hR : Rel w0 σ hp n w) (hL : ∀ x, VR σ (lk fr x) (ev x)) {x : Operand} {str : Bool} {ty : TypeId} (h : Zz (ZEp fr hp n x str k) φ) :
  LR P w0 σ n w (do pure (Next.value (<- Instr.next (ev x) str ty)) : Sem Next) k φ := by
 unfold ZEp at h
 have hx := hL x
 split at h
 ·rename_i r e; rw [e] at hx; simp only [VR] at hx
  obtain ⟨p, u, hs, hv⟩ := hx
  rw [hv]
  split at h
  ·rename_i m since seen stepped hit
   cases str
   ·simp only [cond_false] at h
    split at h
    ·rename_i es clock hm
     obtain ⟨hcond, h2⟩ := h.bif
     clear h
     obtain ⟨hss, hold⟩ : since <= stepped /\ ZmE since es = true := by
      cases hq : Nat.ble since stepped
      ·rw [hq] at hcond; cases hcond
      ·rw [hq] at hcond; exact ⟨ZJd hq, hcond⟩
     obtain ⟨q, v, hsm, hitw⟩ := hR.at hs hit (by simp)
     obtain ⟨ms, g1, g2⟩ := hR.at hsm hm (by simp)
     have hcr := Zn9 seen g1
     have hleft : (leftOf ms.toArray seen.toArray) = (ms.filter fun e => !seen.contains e.born).toArray := by
      unfold leftOf; simp
     have key := run_next_at (P := P) w ty p q since stepped seen.toArray ms.toArray clock hitw g2 (fun x hx => Zph g1 hold x (by simpa using hx)) hss
     rw [hleft] at key
     rcases key with ⟨k1, k2⟩ | ⟨e, k1, w1, k2, k3⟩
     ·have hnil : (ms.filter fun e => !seen.contains e.born) = [] := ZJf (by simpa using k1)
      rw [hnil] at hcr
      have : Zlg seen es = [] := by
       cases hc : Zlg seen es with
       | nil => rfl
       | cons a l => rw [hc] at hcr; unfold ZD at hcr; obtain ⟨_, _, hcc, _⟩ := hcr; cases hcc
      rw [this] at h2
      exact LR.val k2 (by simp only [VR, VRs]; exact ⟨_, ⟨_, _, rfl, rfl, rfl⟩, rfl⟩) hR (Ex.refl _ _) (Nle.refl _) h2
     ·obtain ⟨i, hi⟩ := List.getElem?_of_mem (show e ∈ (ms.filter fun e => !seen.contains e.born) by simpa using k1)
      obtain ⟨e', m1, m2, m3, m4⟩ := hcr.get hi
      have h3 : Zz (Zyk (fun e => k (.tup [.bool true, e.key, e.val]) (Zag hp r (.iter m since (seen ++ [e.born]) clock)) n) (Zlg seen es)) φ := by
       split at h2
       ·rename_i hc; rw [hc] at m1; cases m1
       ·exact h2
      have h4 := Zin h3 e' m1
      have hR1 : Rel w0 σ hp n w1 := by
       rcases k2 with rfl | rfl
       ·exact hR
       ·exact hR.drew _
      refine LR.val k3 (ZBt (by simp only [VR]) m2 m3) (hR1.put (c := .iter m since (seen ++ [e'.born]) clock) hs (by rw [hit]; simp) (fun hh => ⟨q, v, hsm, ?_⟩)) (Ex.refl _ _) (Nle.refl _) h4
      rw [hh, <- m4]; simp
    ·exact h.no.elim
   ·exact h.no.elim
  ·rename_i hit
   cases str
   ·simp only [cond_false] at h
    have hitw := hR.at hs hit (by simp)
    have hitw : w.heap[p]? = some (.mapIter none 0 #[] 0) := hitw
    refine LR.val (v := .tuple #[.bool false]) ?_ (by simp only [VR, VRs]; exact ⟨_, ⟨_, _, rfl, rfl, rfl⟩, rfl⟩) hR (Ex.refl _ _) (Nle.refl _) h
    simp [Instr.next, getObj, Sem.run, hitw]
   ·exact h.no.elim
  ·rename_i l m pos hit
   cases str
   ·exact h.no.elim
   ·simp only [cond_true] at h
    have hitw : w.heap[p]? = some (.stringIter ⟨(bys l m).toArray⟩ pos) := hR.at hs hit (by simp)
    have hsz : (⟨(bys l m).toArray⟩ : ByteArray).size = l := by simp [ByteArray.size, Zw]
    cases hlt : Nat.blt pos l
    ·rw [hlt] at h; simp only [cond_false] at h
     have hlt' : ¬ pos < l := by intro h'; have := Nat.blt_eq.symm ▸ h'; rw [this] at hlt; cases hlt
     refine LR.val (v := .tuple #[.bool false]) ?_ (by simp only [VR, VRs]; exact ⟨_, ⟨_, _, rfl, rfl, rfl⟩, rfl⟩) hR (Ex.refl _ _) (Nle.refl _) h
     simp [Instr.next, getObj, Sem.run, hitw, hsz, hlt']
    ·rw [hlt] at h; simp only [cond_true] at h
     have hlt' : pos < l := by simpa [Nat.blt_eq] using hlt
     obtain ⟨ha, h2⟩ := h.bif
     clear h
     have ha : ZkE m pos < 128 := by simpa [Nat.blt_eq] using ha
     have hlt2 : pos < (⟨(bys l m).toArray⟩ : ByteArray).size := by rw [hsz]; exact hlt'
     have ZO : ((⟨(bys l m).toArray⟩ : ByteArray)[pos]'hlt2) = UInt8.ofNat (ZkE m pos) := by
      have := Zlc l m pos hlt'
      rw [getElem?_pos (⟨(bys l m).toArray⟩ : ByteArray) pos hlt2] at this
      exact Option.some.inj this
     have hdec := decode_ascii ⟨(bys l m).toArray⟩ pos hlt2 (by rw [ZO, Zqg _ (ZjT m pos)]; exact ha)
     rw [ZO, Zqg _ (ZjT m pos)] at hdec
     refine LR.val (v := .tuple #[.bool true, goInt pos, .int .i32 (ZkE m pos : Nat)]) (w' := Zjc w p (.stringIter ⟨(bys l m).toArray⟩ (pos + 1))) ?_ (ZBt (by simp only [VR]) (Zjd _) (by simp only [VR]; rfl))
      (hR.put (c := .siter l m (pos + 1)) hs (by rw [hit]; simp) (fun hh => hh)) (Ex.refl _ _) (Nle.refl _) h2
     simp [Instr.next, getObj, setObj, Sem.run, hitw, hsz, hlt', hdec, Zjc]
  ·exact h.no.elim
 ·exact h.no.elim
theorem Zrl : ∀ l : List Nat, Zza l = l.getLast?
 | [] => rfl
 | [a] => rfl
 | a :: b :: l => by simp only [Zza]; rw [Zrl (b :: l)]; simp
theorem ZiL {s : Nat} : ∀ {es : List Ent} {ms : List MapEntry} {e : Ent}, ZD σ es ms -> Zf0 s es = some e -> ∃ m, ms.find? (fun x => x.born == s) = some m /\ VR σ e.key m.key /\ VR σ e.val m.val
 | [], ms, e, he, h => by cases h
 | a :: es, ms, e, he, h => by
  unfold ZD at he
  obtain ⟨m, ns, rfl, h1, h2, h3, h4⟩ := he
  unfold Zf0 at h
  cases hb : Nat.beq a.born s
  ·rw [hb] at h; simp only [cond_false] at h
   obtain ⟨m', k1, k2⟩ := ZiL h4 h
   refine ⟨m', ?_, k2⟩
   have : ¬ (m.born = s) := by rw [h3]; intro e'; rw [e', Nat.beq_refl] at hb; cases hb
   rw [List.find?_cons_of_neg (by simpa using this)]; exact k1
  ·rw [hb] at h; cases h
   have := ZI1 hb
   exact ⟨m, by rw [List.find?_cons_of_pos (by simp [h3, this])], h1, h2⟩
theorem ZCX (hR : Rel w0 σ hp n w) (hL : ∀ x, VR σ (lk fr x) (ev x)) {x : Operand} (h : Zz (Zwp fr hp n x k) φ) :
  LR P w0 σ n w (do pure (Next.value (<- Instr.entry (ev x))) : Sem Next) k φ := by
 unfold Zwp at h
 have hx := hL x
 split at h
 ·rename_i r e; rw [e] at hx; simp only [VR] at hx
  obtain ⟨p, u, hs, hv⟩ := hx
  split at h
  ·rename_i m since seen stepped hit
   split at h
   ·rename_i es clock hm
    obtain ⟨hcl, h2⟩ := h.bif
    clear h
    have hcl := ZI1 hcl
    subst hcl
    split at h2
    ·rename_i s hlast
     rw [Zrl] at hlast
     split at h2
     ·rename_i en hen
      obtain ⟨q, v, hsm, hitw⟩ := hR.at hs hit (by simp)
      obtain ⟨ms, g1, g2⟩ := hR.at hsm hm (by simp)
      obtain ⟨m', k1, k2, k3⟩ := ZiL g1 hen
      refine LR.val (v := .tuple #[m'.key, m'.val]) ?_ (Zo4 k2 k3) hR (Ex.refl _ _) (Nle.refl _) h2
      rw [hv]
      have hf : ms.toArray.find? (fun x => x.born == s) = some m' := by rw [<- Array.find?_toList]; exact k1
      have hbk : seen.toArray.back? = some s := by simpa using hlast
      simp only [Instr.entry, getObj, Sem.run_bind, Sem.run, hitw, g2, Result.andThen, hbk, bne_self_eq_false, Bool.false_eq_true, if_false, hf]
      rfl
     ·exact h2.no.elim
    ·exact h2.no.elim
   ·exact h.no.elim
  ·exact h.no.elim
 ·exact h.no.elim
end
end Go.Cx
namespace Go.Cx
open Go.RowKit (Below)
theorem ZcI {need : Nat} : ∀ (r c : Nat), 256 <= c -> c <= 2 * need -> Builtin.growBy need r c <= 2 * need
 | 0, c, _, h => h
 | r + 1, c, h0, h => by
  simp only [Builtin.growBy]
  split
  ·exact h
  ·exact ZcI r _ (by omega) (by omega)
theorem Zdn {need old : Nat} (h : old < need) : Builtin.nextslicecap need old <= 2 * need := by
 unfold Builtin.nextslicecap
 split
 ·omega
 ·split
  ·omega
  ·exact ZcI _ _ (by omega) (by omega)
def ZaO (d : TypeDesc) : Bool := match d with | .int _ => false | _ => true
theorem Zc1 {d : TypeDesc} : ZaO d = true -> Builtin.append_.match_1 (fun _ => Bool) d (fun _ => true) (fun _ => false) = false := by
 intro h
 cases d <;> first | rfl | (simp [ZaO] at h; done)
section
variable {P : Program} {w0 : World} {σ : Sg} {hp : H} {n : Nat} {w : World} {fr : F} {ev : Operand -> Value} {k : KS} {φ : Out -> Prop}
theorem YL {ts : Array TypeId} {t t2 et ty : TypeId} {d2 : TypeDesc} {sz m sLen sCap : Nat} {base : Option Addr} {x : Value} {cells : List Value} {w w' : World} (h0 : ts[0]? = some t) (h1 : ts[1]? = some t2)
  (ht : P.underlying t = some (.slice et)) (ht2 : P.underlying t2 = some d2) (hd : ZaO d2 = true) (hsz : (sizeOf et).run P w = .ok sz w) (hx : (Builtin.lenOf x).run P w = .ok m w) (hf : (Builtin.firstCells sz m x).run P w = .ok cells.toArray w) (hfit : sLen + m <= sCap)
  (hrun : match base with | some a => (storeCells (a.add (sLen * sz)) cells).run P w = .ok () w' | none => w' = w) :
  (Builtin.append_ ts ty #[.slice base sLen sCap, x]).run P w = .ok (.slice base (sLen + m) sCap) w' := by
 have hd' := Zc1 hd
 cases base with
 | none => subst hrun; simp [Builtin.append_, h0, h1, run_underlying ht, run_underlying ht2, hsz, hx, hfit, hf, hd']
 | some a => simp [Builtin.append_, h0, h1, run_underlying ht, run_underlying ht2, hsz, hx, hfit, hf, hrun, hd']
theorem Za8 {ts : Array TypeId} {t t2 et ty : TypeId} {d2 : TypeDesc} {m sLen sCap : Nat} {base : Option Addr} {x z : Value} {i : TypeInfo} {cells old : List Value} {w : World} (h0 : ts[0]? = some t) (h1 : ts[1]? = some t2)
  (ht : P.underlying t = some (.slice et)) (ht2 : P.underlying t2 = some d2) (hd : ZaO d2 = true) (hi : P.info? et = some i) (hz : i.zero = some z) (hzs : z.cells.size = i.size) (hb : 1 <= i.bytes)
  (hx : (Builtin.lenOf x).run P w = .ok m w) (hf : (Builtin.firstCells i.size m x).run P w.drew = .ok cells.toArray w.drew) (hfit : ¬ sLen + m <= sCap)
  (hold : (Builtin.firstCells i.size sLen (.slice base sLen sCap)).run P w.drew = .ok old.toArray w.drew) (hroom : i.bytes * (sLen + m) <= 140737488355328) :
  ∃ c spare, sLen + m <= c /\ spare.length = (c - (sLen + m)) * i.size /\ (Builtin.append_ ts ty #[.slice base sLen sCap, x]).run P w =
   .ok (.slice (some ⟨w.heap.size, 0, none⟩) (sLen + m) c) { w.drew with heap := w.heap.push (.cells (old ++ cells ++ spare).toArray et) } := by
 refine ⟨(Question.appendCap (sLen + m) sCap et).cut (w.tape w.drawn (.appendCap (sLen + m) sCap et)), (Builtin.zeroCells z.cells ((Question.appendCap (sLen + m) sCap et).cut (w.tape w.drawn (.appendCap (sLen + m) sCap et)) - (sLen + m))).toList, by simp [Question.cut], by simp [Builtin.zeroCells, hzs], ?_⟩
 have hsz : ∀ w, (sizeOf et).run P w = .ok i.size w := fun w => by simp [sizeOf, typeInfo, hi]
 have hcap := Zdn (show sCap < sLen + m by omega)
 have hcapb : ¬ (281474976710656 < Builtin.nextslicecap (sLen + m) sCap * i.bytes) := by
  have : Builtin.nextslicecap (sLen + m) sCap * i.bytes <= 2 * (sLen + m) * i.bytes := ZIR _ hcap
  have e : 2 * (sLen + m) * i.bytes = 2 * (i.bytes * (sLen + m)) := by rw [Nat.mul_assoc, Nat.mul_comm (sLen + m)]
  omega
 have hnb : ¬ i.bytes = 0 := by omega
 have hd' := Zc1 hd
 have hzr : ∀ w, (zeroValue et).run P w = .ok z w := fun w => Zv hi hz w
 have harr : ∀ Z : Array Value, old.toArray ++ (cells.toArray ++ Z) = (old ++ (cells ++ Z.toList)).toArray := fun Z => by apply Array.ext'; simp
 simp [Builtin.append_, h0, h1, run_underlying ht, run_underlying ht2, hsz, hx, hfit, typeInfo, hi, hnb, hcapb, hd', Question.forced, hold, hf, hzr, YI]
 rw [harr]
 rfl
theorem Zem {ts : Array TypeId} {t et ty : TypeId} {sz m l cap : Nat} {base : Option Addr} {x : Value} {cells : List Value} {w w' : World} (h0 : ts[0]? = some t) (ht : P.underlying t = some (.slice et)) (hsz : (sizeOf et).run P w = .ok sz w)
  (hx : (Builtin.lenOf x).run P w = .ok m w) (hf : (Builtin.firstCells sz (min m l) x).run P w = .ok cells.toArray w)
  (hrun : match base with | some a => (storeCells a cells).run P w = .ok () w' | none => w' = w) :
  (Builtin.copy_ ts ty #[.slice base l cap, x]).run P w = .ok (goInt (min m l : Nat)) w' := by
 have hmin : m.min l = min m l := rfl
 cases base with
 | none => subst hrun; simp [Builtin.copy_, h0, run_underlying ht, hx, hsz, hmin, hf]
 | some a => simp [Builtin.copy_, h0, run_underlying ht, hx, hsz, hmin, hf, hrun]
theorem ZeP {ts : Array TypeId} {t et ty : TypeId} {l cap : Nat} {a : Addr} {i : TypeInfo} {zv : Value} {w w' : World} (h0 : ts[0]? = some t) (ht : P.underlying t = some (.slice et)) (hi : P.info? et = some i) (hz : i.zero = some zv)
  (hrun : (storeCells a (List.replicate (l + 1) zv.cells.toList).flatten).run P w = .ok () w') :
  (Builtin.clear_ ts ty #[.slice (some a) (l + 1) cap]).run P w = .ok (.tuple #[]) w' := by
 have hc : (Builtin.zeroCells zv.cells (l + 1)).toList = (List.replicate (l + 1) zv.cells.toList).flatten := Z0 _ _
 simp [Builtin.clear_, h0, run_underlying ht, Zv hi hz, hc, hrun]
/-! ### Elements -/
def ZmB (σ : Sg) : Els -> List Value -> Prop
 | .cs l, vs => VRs σ l vs
 | .bs l m, vs => vs = (bys l m).map Zd6
theorem ZmB.mono {τ : Sg} (h : Le σ τ) {e : Els} {vs : List Value} (k : ZmB σ e vs) : ZmB τ e vs := by
 cases e with
 | cs l => exact VRs.mono h k
 | bs l m => exact k
theorem Zhl {c : CV} {v : Value} (hv : VR σ c v) {m : Nat} (h : lenOf c = some m) (w : World) : (Builtin.lenOf v).run P w = .ok m w := by
 unfold lenOf at h
 split at h
 ·simp only [VR] at hv; subst hv; cases h; rfl
 ·rename_i l x; simp only [VR] at hv; subst hv; cases h; simp [Builtin.lenOf, ByteArray.size, Zw]
 ·simp only [VR] at hv; obtain ⟨_, _, _, _, _, rfl, _⟩ := hv; cases h; rfl
 ·cases h
theorem Zd2 (hR : Rel w0 σ hp n w) {c : CV} {v : Value} (hv : VR σ c v) {u8 : Bool} {s m : Nat} {e : Els} (h : Zmy hp u8 s c m = some e) (h1 : 1 <= s) (h8 : u8 = true -> s = 1) :
  ∃ vs, ZmB σ e vs /\ vs.length = m * s /\ ∀ w', (∀ a, w'.cell? a = w.cell? a) -> (Builtin.firstCells s m v).run P w' = .ok vs.toArray w' := by
 unfold Zmy at h
 split at h
 ·obtain ⟨h2, h3⟩ := ZdN h
  have := ZI1 h2; subst this
  simp only [VR] at hv; subst hv
  refine ⟨[], ?_, by simp, fun w' _ => rfl⟩
  cases h3; cases u8 <;> simp [ZmB, VRs, bys]
 ·rename_i l x
  obtain ⟨h2, h3⟩ := ZdN h
  obtain ⟨h4, h5⟩ := ZdN h3
  cases h5
  have h4 := ZJd h4
  have := h8 h2; subst this
  simp only [VR] at hv; subst hv
  refine ⟨(bys m x).map Zd6, rfl, by simp [Zw], fun w' _ => ?_⟩
  have e := ZdR l x 0 m h4 (Nat.zero_le _)
  simp only [Builtin.firstCells, Sem.run_pure]
  rw [e]
  congr 1
  simp only [Nat.sub_zero]
  have e2 : bys m (Zn7 x 0 m) = bys m x := by unfold Zn7; rw [Zco, Zs4, Nat.div_one]
  rw [e2]
  apply Array.ext'; simp [Zd6]
 ·rename_i b o s' l kk ex
  obtain ⟨h2, h3⟩ := ZdN h
  have := ZI1 h2; subst this
  obtain ⟨h4, h5⟩ := ZdN h3
  have h4 := ZJd h4
  simp only [VR] at hv; obtain ⟨p, t, o', C, hs, rfl, hlk, hkc, hex, ho, hle, heq⟩ := hv
  cases hm0 : Nat.beq m 0
  ·rw [hm0] at h5; simp only [cond_false] at h5
   have hm : m ≠ 0 := fun e => by rw [e] at hm0; cases hm0
   have hoo := ho (.inl (by omega)); subst hoo
   have rd : ∀ (vs ws : List Value) (fz : Bool), Row w p t ws fz -> vs.length = m * s -> (∀ j v, vs[j]? = some v -> ws[o' + j]? = some v) -> ∀ w', (∀ a, w'.cell? a = w.cell? a) -> (Builtin.firstCells s m (.slice (some ⟨p, o', none⟩) l C)).run P w' = .ok vs.toArray w' := by
    intro vs ws fz hrow hl hj w' hw'
    simp only [Builtin.firstCells]
    rw [<- hl]
    exact Zb3 _ vs w' (fun j v hv => by rw [hw', add_eq]; exact (hrow.cell (hj j v hv)).1)
   cases hu : u8
   ·rw [hu] at h5; simp only [cond_false] at h5
    split at h5
    ·rename_i cs hc
     split at h5
     ·rename_i r hr
      cases h5
      obtain ⟨ws, g1, g2⟩ := hR.at hs hc (by simp)
      obtain ⟨a1, a2, a3⟩ := (g1.drop (n := o')).take hr
      refine ⟨_, a1, by rw [ZI2]; omega, rd _ ws _ g2 (by rw [ZI2]; omega) (fun j v hj => ?_)⟩
      have hlt := (List.getElem?_eq_some_iff.1 hj).1
      rw [List.getElem?_take_of_lt (by simp at hlt; omega), ZJp] at hj
      exact hj
     ·cases h5
    ·cases h5
   ·rw [hu] at h5; simp only [cond_true] at h5
    have := h8 hu; subst this
    split at h5
    ·rename_i kk2 x hc
     obtain ⟨h6, h7⟩ := ZdN h5
     cases h7
     have h6 := ZJd h6
     have g2 : Row w p t ((bys kk2 x).map Zd6) true := hR.at hs hc (by simp)
     refine ⟨(bys m (Zn7 x o' m)).map Zd6, rfl, by simp [Zw], rd _ _ _ g2 (by simp [Zw]) (fun j v hj => ?_)⟩
     have hlt := (List.getElem?_eq_some_iff.1 hj).1
     rw [ZJa, Zw] at hlt
     rw [<- Znh kk2 x o' m h6, ZIW, List.getElem?_take_of_lt hlt, ZJp, <- ZIW] at hj
     exact hj
    ·cases h5
  ·rw [hm0] at h5; simp only [cond_true] at h5
   have := ZI1 hm0; subst this
   refine ⟨[], ?_, by simp, fun w' _ => by simp [Builtin.firstCells, loadCells, loadCellsFrom]⟩
   cases h5; cases u8 <;> simp [ZmB, VRs, bys]
 ·cases h
theorem Row.len {p t : Nat} {vs : List Value} {fz : Bool} (h : Row w p t vs fz) : vs.length <= t := by
 obtain ⟨arr, _, _, _, _, q1, ⟨sp, q2⟩, _⟩ := h; have := congrArg List.length q2; simp at this; omega
end
end Go.Cx
namespace Go.Cx
open Go.RowKit (Below)
theorem Zqe {a b : Nat} (h : Nat.ble a b = false) : ¬ (a <= b) := fun e => by have := Nat.ble_eq.symm ▸ e; rw [this] at h; cases h
section
variable {P : Program} {w0 : World} {σ : Sg} {hp : H} {n : Nat} {w : World} {fr : F} {ev : Operand -> Value} {k : KS} {φ : Out -> Prop}
theorem ZcR (hR : Rel w0 σ hp n w) {b o p t : Nat} {e : Els} {vs : List Value} {hp' : H} (h : Zgn hp b o e = some hp') (hs : σ b = some (p, t)) (hv : ZmB σ e vs) (hfit : o + vs.length <= t) :
  ∃ w', (storeCells ⟨p, o, none⟩ vs).run P w = .ok () w' /\ Rel w0 σ hp' n w' := by
 unfold Zgn at h
 split at h
 ·rename_i l
  split at h
  ·rename_i old hc
   obtain ⟨ha, h⟩ := ZdN h
   split at h
   ·rename_i new hn
    cases h
    obtain ⟨ws, h1, h2⟩ := hR.at hs hc (by simp)
    obtain ⟨g1, g2⟩ := VRs.over hv h1 hn
    obtain ⟨w', r1, r2, r3, r4, r5, r6, r7⟩ := h2.write (P := P) (o := o) (new := vs) g2 hfit (Zdj hv ha)
    exact ⟨w', r1, hR.upd hs (by rw [hc]; simp) r3 r4 r5 r6 r7 ⟨_, g1, r2⟩⟩
   ·cases h
  ·cases h
 ·rename_i l x
  split at h
  ·rename_i k y hc
   obtain ⟨ho, h⟩ := ZdN h
   have ho := ZJd ho
   have hv : vs = (bys l x).map Zd6 := hv
   have hvl : vs.length = l := by rw [hv]; simp [Zw]
   have h2 : Row w p t ((bys k y).map Zd6) true := hR.at hs hc (by simp)
   obtain ⟨w', r1, r2, r3, r4, r5, r6, r7⟩ := h2.write (P := P) (o := o) (new := vs) (by simp [Zw]; omega) hfit (by rw [hv]; exact Zjk _)
   cases hol : Nat.ble (o + l) k
   ·rw [hol] at h; cases h
    have hol : ¬ (o + l <= k) := Zqe hol
    refine ⟨w', r1, hR.upd hs (by rw [hc]; simp) r3 r4 r5 r6 r7 ?_⟩
    show Row w' p t ((bys (o + l) (Zkw o y (x % pw l))).map Zd6) true
    rw [<- Zfl, Zco, ZJg, <- hv]
    rw [List.drop_eq_nil_of_le (by simp [Zw]; omega), List.append_nil, <- List.map_take, Zgf _ _ _ ho] at r2
    exact r2
   ·rw [hol] at h; cases h
    have hol := ZJd hol
    refine ⟨w', r1, hR.upd hs (by rw [hc]; simp) r3 r4 r5 r6 r7 ?_⟩
    show Row w' p t ((bys k (ZDt y o l x k)).map Zd6) true
    rw [Zvb _ _ _ _ _ hol, ZJg, ZJg, <- hv, List.map_take, List.map_drop]
    rw [hvl] at r2
    exact r2
  ·cases h
theorem ZpT {e : Nat} {i : TypeInfo} (h : elI P e = some i) : P.info? e = some i /\ 1 <= i.size /\ 1 <= i.bytes /\ (Zf5 P e = true -> i.size = 1) /\ ∃ zv, i.zero = some zv /\ zv.cells.size = i.size := by
 unfold elI at h
 split at h
 ·rename_i j hj
  obtain ⟨h1, h2⟩ := ZdN h
  split at h2
  ·rename_i z hz
   obtain ⟨h3, h4⟩ := ZdN h2
   cases h4
   have h3 := ZI1 h3
   obtain ⟨i', zv, z1, z2, z3⟩ := Y6 (σ := fun _ => none) hz
   rw [Zaa hj] at z1; cases z1
   cases q1 : Nat.ble 1 i.size
   ·rw [q1] at h1; cases h1
   rw [q1] at h1
   cases q2 : Nat.ble 1 i.bytes
   ·rw [q2] at h1; cases h1
   rw [q2] at h1
   refine ⟨Zaa hj, ZJd q1, ZJd q2, fun hu => ?_, zv, z2, by rw [<- Array.length_toList, <- z3.len, h3]⟩
   rw [hu] at h1; exact ZI1 h1
  ·cases h2
 ·cases h
theorem Zhf {a b : Els} {ck : Ck} {va vb : List Value} (h : Ziq a b = some ck) (ha : ZmB σ a va) (hb : ZmB σ b vb) : ∀ (τ : Sg), Le σ τ -> ∀ (w : World) (p t : Nat), Row w p t (va ++ vb) false -> holds τ w p t ck := by
 intro τ hle w p t hr
 unfold Ziq at h
 split at h
 ·cases h
  exact ⟨_, (VRs.app ha hb).mono hle, hr⟩
 ·cases h
  have ha : va = _ := ha
  have hb : vb = _ := hb
  show Row w p t _ true
  rw [<- Zfl, ZJg, <- ha, <- hb]
  obtain ⟨arr, ty, lo, hi, q1, q2, q3, q4⟩ := hr
  refine ⟨arr, ty, lo, hi, q1, q2, q3, ?_⟩
  rcases q4 with q4 | ⟨q4, _⟩
  ·exact .inl q4
  ·cases q4
 ·cases h
theorem ZrL {a b : Els} {ck : Ck} {va vb : List Value} {u8 : Bool} (h : Ziq a b = some ck) (ha : ZmB σ a va) (hb : ZmB σ b vb) (hu : (∃ l, a = .cs l) -> u8 = false) : ∀ (τ : Sg), Le σ τ -> ∀ (w : World) (p t : Nat), Row w p t (va ++ vb) u8 -> holds τ w p t ck := by
 intro τ hle w p t hr
 unfold Ziq at h
 split at h
 ·cases h
  have := hu ⟨_, rfl⟩; subst this
  exact ⟨_, (VRs.app ha hb).mono hle, hr⟩
 ·cases h
  have ha : va = _ := ha
  have hb : vb = _ := hb
  show Row w p t _ true
  rw [<- Zfl, ZJg, <- ha, <- hb]
  obtain ⟨arr, ty, lo, hi, q1, q2, q3, q4⟩ := hr
  exact ⟨arr, ty, lo, hi, q1, q2, q3, q4.imp id (fun q => ⟨rfl, q.2⟩)⟩
 ·cases h
theorem Zsk {c : CV} {s m : Nat} {l : List CV} (h : Zmy hp true s c m = some (.cs l)) : False := by
 unfold Zmy at h
 split at h
 ·obtain ⟨_, h2⟩ := ZdN h; cases h2
 ·obtain ⟨_, h2⟩ := ZdN h; obtain ⟨_, h3⟩ := ZdN h2; cases h3
 ·obtain ⟨_, h2⟩ := ZdN h; obtain ⟨_, h3⟩ := ZdN h2
  cases hm : Nat.beq m 0
  ·rw [hm] at h3; simp only [cond_false, cond_true] at h3
   split at h3
   ·obtain ⟨_, h4⟩ := ZdN h3; cases h4
   ·cases h3
  ·rw [hm] at h3; cases h3
 ·cases h
theorem ZAD {c : CV} {u8 : Bool} {s m : Nat} {e : Els} (h : Zmy hp u8 s c m = some e) : (∃ l, e = .cs l) -> u8 = false := by
 rintro ⟨l, rfl⟩
 cases u8
 ·rfl
 ·exact (Zsk h).elim
theorem ZIx (hR : Rel w0 σ hp n w) {b p t : Nat} (hs : σ b = some (p, t)) {u8 : Bool} (h : Zu6 u8 (ZO hp b) = true) : ∃ ws, Row w p t ws u8 := by
 unfold Zu6 at h
 split at h
 ·rename_i cs hc
  have : u8 = false := by simpa using h
  subst this
  obtain ⟨ws, _, g⟩ := hR.at hs hc (by simp)
  exact ⟨ws, g⟩
 ·rename_i l m hc
  subst h
  exact ⟨_, hR.at hs hc (by simp)⟩
 ·cases h
theorem Zse {e : Els} {vs : List Value} (h : ZsR e = true) (hv : ZmB σ e vs) : ∀ v ∈ vs, v.oneCell' = true := by
 cases e with
 | cs l => exact Zdj hv h
 | bs l m => have : vs = _ := hv; rw [this]; exact Zjk _
theorem Rel.chg (h : Rel w0 σ hp n w) {p : Nat} {w' : World} (hz : w'.heap.size = w.heap.size) (hb : ∀ k, k ≠ p -> w'.heap[k]? = w.heap[k]?) (ho : w'.os = w.os) (ht : w'.tape = w.tape) (hu : w'.output = w.output) (hp0 : w0.heap.size <= p)
  (hno : ∀ j q u, j < 32768 -> ZO hp j ≠ .no -> σ j = some (q, u) -> q ≠ p) : Rel w0 σ hp n w' :=
 ⟨fun i hi hc => let ⟨q, t, h1, h2⟩ := h.hold i hi hc; ⟨q, t, h1, h2.congr (hb q (hno i q t hi hc h1))⟩, h.apart,
  fun i q t hs => let ⟨a, b, c⟩ := h.old i q t hs; ⟨a, b, by rw [hz]; exact c⟩, h.fresh, h.lim, h.below.trans ⟨ho, ht, hu, by rw [hz]; exact ZIQ _, fun k hk => hb k (by omega)⟩⟩
theorem Rel.move (hR : Rel w0 σ hp n w) {b p t : Nat} (hs : σ b = some (p, t)) (hl : ZO hp b ≠ .no) {w' : World} (hz : w'.heap.size = w.heap.size) (hb : ∀ k, k ≠ p -> w'.heap[k]? = w.heap[k]?) (ho : w'.os = w.os) (ht : w'.tape = w.tape) (hu : w'.output = w.output)
  {c : Ck} {v : Nat -> CV} (h : Zz (ZbF (Zag hp b .no) n c v k) φ) (hc : ∀ τ, Le σ τ -> holds τ w' p t c) :
  ∃ σ', σ' (idN n) = some (p, t) /\ Rel w0 σ' (Zag (Zag hp b .no) (idN n) c) (n + 1) w' /\ Ex n σ σ' /\ Nle n (n + 1) /\ Zz (k (v (idN n)) (Zag (Zag hp b .no) (idN n) c) (n + 1)) φ := by
 unfold ZbF at h
 obtain ⟨h1, h2⟩ := h.bif
 have h1 : idN n < Y1 n := by simpa [Nat.blt_eq] using h1
 obtain ⟨e1, e2⟩ := ZlA h1 hR.lim
 have hf : σ (idN n) = none := hR.fresh _ (ZIQ _) h1
 obtain ⟨hb1, hb2, hb3⟩ := hR.old _ _ _ hs
 have hk := hR.kill hb1
 have hno : ∀ j q u, j < 32768 -> ZO (Zag hp b .no) j ≠ .no -> σ j = some (q, u) -> q ≠ p := fun j q u hj hjc hq => by
  rw [Ya _ _ _ _ hb1 hj] at hjc
  by_cases e : j = b
  ·rw [if_pos e] at hjc; exact absurd rfl hjc
  ·rw [if_neg e] at hjc; exact hR.apart j b q u p t hj hb1 hjc hl e hq hs
 have hk' := hk.chg hz hb ho ht hu hb2 hno
 refine ⟨_, Zau _ _ _, hk'.name (by have := hR.lim; omega) hf hb2 (by rw [hz]; exact hb3) hno (hc _ (Le.upd hf)) e2 (fun j hj _ => ⟨by omega, by omega⟩), ⟨Le.upd hf, fun i hi => ?_⟩, ⟨by omega, e2⟩, h2⟩
 unfold ZoX
 rw [if_neg (fun e => hi ⟨by omega, by omega⟩)]
theorem ZAq (hR : Rel w0 σ hp n w) {d s : CV} {vd vs : Value} (hd : VR σ d vd) (hs : VR σ s vs) {t t2 ty : Nat} {ts : Array Nat} (h0 : ts[0]? = some t) (h1 : ts[1]? = some t2) (h : Zz (Zpd P hp n t t2 d s k) φ) :
  LR P w0 σ n w (do pure (Next.value (<- Builtin.append_ ts ty #[vd, vs])) : Sem Next) k φ := by
 unfold Zpd at h
 split at h
 ·rename_i e hdt
  have hu := Zd hdt
  split at h
  ·rename_i i hel
   obtain ⟨hi, i1, i2, i3, zv, z1, z2⟩ := ZpT hel
   split at h
   ·exact h.no.elim
   ·rename_i d2 hni hd2
    have hu2 := Zd hd2
    have hnot : ZaO d2 = true := by cases d2 <;> first | rfl | exact (hni _ rfl).elim
    split at h
    ·rename_i m hm
     have hlen := fun w => Zhl (P := P) hs hm w
     split at h
     ·rename_i new hnew
      obtain ⟨nv, n1, n2, n3⟩ := Zd2 (P := P) hR hs hnew i1 i3
      have hsz : ∀ w, (sizeOf e).run P w = .ok i.size w := fun w => by simp [sizeOf, typeInfo, hi]
      have hRd : Rel w0 σ hp n w.drew := hR.drew _
      -- a new block
      have grow : ∀ {base : Option Addr} {l C : Nat} {ov : List Value} {ck : Ck}, ¬ l + m <= C -> ov.length = l * i.size -> (Builtin.firstCells i.size l (.slice base l C)).run P w.drew = .ok ov.toArray w.drew -> i.bytes * (l + m) <= 70368744177664 →
        (∀ (τ : Sg), Le σ τ -> ∀ (w : World) (p t : Nat), Row w p t (ov ++ nv) false -> holds τ w p t ck) -> Zz (ZbF hp n ck (fun b => .slice b 0 i.size (l + m) (l + m) false) k) φ →
        LR P w0 σ n w (do pure (Next.value (<- Builtin.append_ ts ty #[.slice base l C, vs])) : Sem Next) k φ := by
       intro base l C ov ck hfit hol hold hroom hck hg
       obtain ⟨c, spare, c1, c2, c3⟩ := Za8 (ty := ty) h0 h1 hu hu2 hnot hi z1 z2 i2 (hlen w) (n3 w.drew (fun _ => rfl)) hfit hold (by omega)
       obtain ⟨σ', s1, s2, s3, s4, s5⟩ := ZQ hRd hg (.cells (ov ++ nv ++ spare).toArray e) (c * i.size) (fun τ hle _ => hck τ hle _ _ _ (by
        have := Row.new (w := w.drew) (vs := ov ++ nv) (arr := (ov ++ nv ++ spare).toArray) (ty := e) (fz := false) (spare := spare) (by simp)
        have e2 : (ov ++ nv ++ spare).toArray.size = c * i.size := by
         simp only [List.size_toArray, ZI5, hol, n2, c2]
         rw [Nat.sub_mul, <- Nat.add_mul]
         have : (l + m) * i.size <= c * i.size := ZIR _ c1
         omega
        rw [e2] at this; exact this))
       refine LR.val c3 ?_ s2 s3 s4 s5
       simp only [VR]
       exact ⟨_, _, _, _, s1, rfl, ZIQ _, c1, fun e => (by cases e), fun _ => rfl, by omega, fun _ _ => (by omega)⟩
      split at h
      ·-- nil
       simp only [VR] at hd; subst hd
       cases hm0 : Nat.beq m 0
       ·rw [hm0] at h; simp only [cond_false] at h
        have hm1 : m ≠ 0 := fun e => by rw [e] at hm0; cases hm0
        split at h
        ·rename_i ck hck
         obtain ⟨hroom, h2⟩ := h.bif
         have hroom := ZJd hroom
         have := grow (base := none) (l := 0) (C := 0) (ov := []) (ck := ck) (by omega) (by simp) rfl (by simpa using hroom)
          (by
           have he : ZmB σ (bif Zf5 P e then .bs 0 0 else .cs []) [] := by cases Zf5 P e <;> simp [ZmB, VRs, bys]
           exact Zhf hck he n1) (by simpa using h2)
         simpa using this
        ·exact h.no.elim
       ·rw [hm0] at h; simp only [cond_true] at h
        have := ZI1 hm0; subst this
        have hn0 : nv = [] := ZJf (by rw [n2]; simp)
        subst hn0
        refine LR.val (YL (w' := w) (base := none) h0 h1 hu hu2 hnot (hsz w) (hlen w) (n3 w (fun _ => rfl)) (ZIQ _) rfl) (by simp only [VR]) hR (Ex.refl _ _) (Nle.refl _) h
      ·rename_i b o sz l c ex
       obtain ⟨hsz', h2⟩ := h.bif
       clear h
       have hsz' := ZI1 hsz'
       subst hsz'
       have hd0 := hd
       simp only [VR] at hd
       obtain ⟨p, u, o', C, hsb, rfl, hlk, hkc, hex, ho, hle, heq⟩ := hd
       cases hfit : Nat.ble (l + m) c
       ·rw [hfit] at h2; simp only [cond_false] at h2
        have hfit : ¬ (l + m <= c) := Zqe hfit
        split at h2
        ·rename_i old hold
         obtain ⟨ov, o1, o2, o3⟩ := Zd2 (P := P) hR hd0 hold i1 i3
         split at h2
         ·rename_i ck hck
          obtain ⟨hroom, h3⟩ := h2.bif
          clear h2
          have hroom := ZJd hroom
          cases ex
          ·simp only [cond_false] at h3
           obtain ⟨hcond, h4⟩ := h3.bif
           clear h3
           obtain ⟨q1, q2, q3, q4⟩ : o = 0 /\ 1 <= c /\ Zu6 (Zf5 P e) (ZO hp b) = true /\ ZsR new = true := by
            cases q1 : Nat.beq o 0
            ·rw [q1] at hcond; cases hcond
            rw [q1] at hcond
            cases q2 : Nat.ble 1 c
            ·rw [q2] at hcond; cases hcond
            rw [q2] at hcond
            cases q3 : Zu6 (Zf5 P e) (ZO hp b)
            ·rw [q3] at hcond; cases hcond
            rw [q3] at hcond
            exact ⟨ZI1 q1, ZJd q2, rfl, hcond⟩
           subst q1
           have hoo := ho (.inl q2); subst hoo
           have hlive : ZO hp b ≠ .no := fun e => by rw [e] at q3; cases q3
           by_cases hC : l + m <= C
           ·-- in place
            obtain ⟨ws, arr, aty, lo, hi', g1, g2, g3, g4⟩ := ZIx hR hsb q3
            have hsp : l * i.size + m * i.size <= C * i.size := by rw [<- Nat.add_mul]; exact ZIR _ hC
            have hov : ov = arr.toList.take (l * i.size) := by
             have e1 := o3 w (fun _ => rfl)
             have hl : (arr.toList.take (l * i.size)).length = l * i.size := by rw [ZI2, Array.length_toList]; omega
             have e2 := Zb3 (P := P) ⟨p, 0, none⟩ (arr.toList.take (l * i.size)) w (fun j v hj => by
              have hlt := (List.getElem?_eq_some_iff.1 hj).1
              rw [hl] at hlt
              rw [List.getElem?_take_of_lt hlt, ZIP] at hj
              rw [add_eq, Nat.zero_add]; simp [World.cell?, g1, hj])
             rw [hl] at e2
             simp only [Builtin.firstCells] at e1
             rw [e2] at e1
             simp only [Result.ok.injEq, and_true] at e1
             simpa using e1.symm
            have hrow : Row w p u ov (Zf5 P e) := ⟨arr, aty, lo, hi', g1, g2, ⟨arr.toList.drop (l * i.size), by rw [hov, List.take_append_drop]⟩, g4⟩
            obtain ⟨w', r1, r2, r3, r4, r5, r6, r7⟩ := hrow.write (P := P) (o := 0 + l * i.size) (new := nv) (by omega) (by omega) (Zse q4 n1)
            rw [ZJc (by omega), List.drop_eq_nil_of_le (by omega), List.append_nil] at r2
            obtain ⟨σ', s1, s2, s3, s4, s5⟩ := hR.move hsb hlive r3 r4 r5 r6 r7 h4 (fun τ hle => ZrL hck o1 n1 (ZAD hold) τ hle _ _ _ r2)
            refine LR.val (YL (w' := w') (base := some ⟨p, 0, none⟩) h0 h1 hu hu2 hnot (hsz w) (hlen w) (n3 w (fun _ => rfl)) hC (by show (storeCells (Addr.add _ _) nv).run P w = _; rw [add_eq]; exact r1)) ?_ s2 s3 s4 s5
            simp only [VR]
            exact ⟨_, _, _, _, s1, rfl, ZIQ _, hC, fun e => (by cases e), fun _ => rfl, by omega, fun _ _ => heq rfl (by omega)⟩
           ·-- a new block, and the old name dropped
            have hb1 := (hR.old _ _ _ hsb).1
            obtain ⟨c', spare, c1, c2, c3⟩ := Za8 (ty := ty) h0 h1 hu hu2 hnot hi z1 z2 i2 (hlen w) (n3 w.drew (fun _ => rfl)) hC (o3 w.drew (fun _ => rfl)) (by omega)
            obtain ⟨σ', s1, s2, s3, s4, s5⟩ := ZQ (hRd.kill hb1) h4 (.cells (ov ++ nv ++ spare).toArray e) (c' * i.size) (fun τ hle _ => Zhf hck o1 n1 τ hle _ _ _ (by
             have := Row.new (w := w.drew) (vs := ov ++ nv) (arr := (ov ++ nv ++ spare).toArray) (ty := e) (fz := false) (spare := spare) (by simp)
             have e2 : (ov ++ nv ++ spare).toArray.size = c' * i.size := by
              simp only [List.size_toArray, ZI5, o2, n2, c2]
              rw [Nat.sub_mul, <- Nat.add_mul]
              have : (l + m) * i.size <= c' * i.size := ZIR _ c1
              omega
             rw [e2] at this; exact this))
            refine LR.val c3 ?_ s2 s3 s4 s5
            simp only [VR]
            exact ⟨_, _, _, _, s1, rfl, ZIQ _, c1, fun e => (by cases e), fun _ => rfl, by omega, fun _ _ => (by omega)⟩
          ·simp only [cond_true] at h3
           have := hex rfl; subst this
           exact grow (by omega) o2 (o3 w.drew (fun _ => rfl)) hroom (Zhf hck o1 n1) h3
         ·exact h2.no.elim
        ·exact h2.no.elim
       ·rw [hfit] at h2; simp only [cond_true] at h2
        have hfit := ZJd hfit
        cases hm0 : Nat.beq m 0
        ·rw [hm0] at h2; simp only [cond_false] at h2
         have hm1 : m ≠ 0 := fun e => by rw [e] at hm0; cases hm0
         have hoo := ho (.inl (by omega)); subst hoo
         split at h2
         ·rename_i hp' hlay
          have hsp : l * i.size + m * i.size <= C * i.size := by rw [<- Nat.add_mul]; exact ZIR _ (by omega)
          obtain ⟨w', r1, r2⟩ := ZcR (P := P) hR hlay hsb n1 (by rw [n2]; omega)
          refine LR.val (YL (w' := w') (base := some ⟨p, o', none⟩) h0 h1 hu hu2 hnot (hsz w) (hlen w) (n3 w (fun _ => rfl)) (by omega) (by show (storeCells (Addr.add _ _) nv).run P w = _; rw [add_eq]; exact r1)) ?_ r2 (Ex.refl _ _) (Nle.refl _) h2
          simp only [VR]
          exact ⟨_, _, _, _, hsb, rfl, hfit, hkc, hex, fun _ => rfl, hle, heq⟩
         ·exact h2.no.elim
        ·rw [hm0] at h2; simp only [cond_true] at h2
         have := ZI1 hm0; subst this
         have hn0 : nv = [] := ZJf (by rw [n2]; simp)
         subst hn0
         exact LR.val (YL (w' := w) (base := some ⟨p, o', none⟩) h0 h1 hu hu2 hnot (hsz w) (hlen w) (n3 w (fun _ => rfl)) (by omega) rfl) hd0 hR (Ex.refl _ _) (Nle.refl _) h2
      ·exact h.no.elim
     ·exact h.no.elim
    ·exact h.no.elim
   ·exact h.no.elim
  ·exact h.no.elim
 ·exact h.no.elim
theorem ZGx (hR : Rel w0 σ hp n w) {d s : CV} {vd vs : Value} (hd : VR σ d vd) (hs : VR σ s vs) {t ty : Nat} {ts : Array Nat} (h0 : ts[0]? = some t) (h : Zz (ZDY P hp n t d s k) φ) :
  LR P w0 σ n w (do pure (Next.value (<- Builtin.copy_ ts ty #[vd, vs])) : Sem Next) k φ := by
 unfold ZDY at h
 split at h
 ·rename_i e hdt
  have hu := Zd hdt
  split at h
  ·rename_i i hel
   obtain ⟨hi, i1, i2, i3, zv, z1, z2⟩ := ZpT hel
   have hsz : ∀ w, (sizeOf e).run P w = .ok i.size w := fun w => by simp [sizeOf, typeInfo, hi]
   split at h
   ·rename_i m hm
    have hlen := fun w => Zhl (P := P) hs hm w
    split at h
    ·rename_i l hl
     have hmin : (bif Nat.ble m l then m else l) = min m l := by
      cases hq : Nat.ble m l
      ·have := Zqe hq; simp only [cond_false]; omega
      ·have := ZJd hq; simp only [cond_true]; omega
     rw [hmin] at h
     split at h
     ·rename_i hj0
      have hf0 : (Builtin.firstCells i.size (min m l) vs).run P w = .ok ([] : List Value).toArray w := by
       rw [hj0]
       unfold lenOf at hm
       split at hm
       ·simp only [VR] at hs; subst hs; rfl
       ·rename_i l x; simp only [VR] at hs; subst hs
        have e := ZdR l x 0 0 (Nat.zero_le _) (ZIQ _)
        simp only [Builtin.firstCells, Sem.run_pure]; rw [e]; simp [bys]
       ·simp only [VR] at hs; obtain ⟨_, _, _, _, _, rfl, _⟩ := hs; simp [Builtin.firstCells, loadCells, loadCellsFrom]
       ·cases hm
      split at h
      ·simp only [VR] at hd; subst hd
       simp only [lenOf, Option.some.injEq] at hl; subst hl
       have := Zem (ty := ty) (base := none) (cap := 0) (l := 0) (w' := w) h0 hu (hsz w) (hlen w) hf0 rfl
       rw [hj0] at this
       exact LR.val this (by simp only [VR]; rfl) hR (Ex.refl _ _) (Nle.refl _) h
      ·simp only [VR] at hd; obtain ⟨p, u, o', C, _, rfl, _⟩ := hd
       simp only [lenOf, Option.some.injEq] at hl; subst hl
       have := Zem (ty := ty) (base := some ⟨p, o', none⟩) (cap := C) (cells := []) (w' := w) h0 hu (hsz w) (hlen w) hf0 rfl
       rw [hj0] at this
       exact LR.val this (by simp only [VR]; rfl) hR (Ex.refl _ _) (Nle.refl _) h
      ·exact h.no.elim
     ·rename_i hj
      split at h
      ·rename_i new hnew
       obtain ⟨nv, n1, n2, n3⟩ := Zd2 (P := P) hR hs hnew i1 i3
       split at h
       ·rename_i b o sz' l' c ex
        obtain ⟨hq, h2⟩ := h.bif
        clear h
        have hq := ZI1 hq
        subst hq
        simp only [lenOf, Option.some.injEq] at hl; subst hl
        simp only [VR] at hd; obtain ⟨p, u, o', C, hsb, rfl, hlk, hkc, hex, ho, hle, heq⟩ := hd
        have hoo := ho (.inl (by have h9 : min m l' ≠ 0 := (fun e => hj e); omega)); subst hoo
        split at h2
        ·rename_i hp' hlay
         have hsp : min m l' * i.size <= C * i.size := ZIR _ (by omega)
         obtain ⟨w', r1, r2⟩ := ZcR (P := P) hR hlay hsb n1 (by rw [n2]; omega)
         exact LR.val (Zem (ty := ty) (base := some ⟨p, o', none⟩) (cap := C) (w' := w') h0 hu (hsz w) (hlen w) (n3 w (fun _ => rfl)) r1) (by simp only [VR]; rfl) r2 (Ex.refl _ _) (Nle.refl _) h2
        ·exact h2.no.elim
       ·exact h.no.elim
      ·exact h.no.elim
    ·exact h.no.elim
   ·exact h.no.elim
  ·exact h.no.elim
 ·exact h.no.elim
theorem Zgu {e sz m : Nat} {ck : Ck} (h : Zo8 P e sz m = some ck) : ∃ i zv, P.info? e = some i /\ i.zero = some zv /\ zv.cells.size = sz ∧
  ((∃ l x, ck = .bytes l x /\ ZmB σ (.bs l x) (List.replicate m zv.cells.toList).flatten) \/ (∃ cs, ck = .cells cs /\ ZmB σ (.cs cs) (List.replicate m zv.cells.toList).flatten)) := by
 unfold Zo8 at h
 split at h
 ·rename_i z hz
  obtain ⟨hl, h2⟩ := ZdN h
  have hl := ZI1 hl
  obtain ⟨i, zv, z1, z2, z3⟩ := Y6 (σ := σ) hz
  have hsz : zv.cells.size = sz := by rw [<- Array.length_toList, <- z3.len, hl]
  refine ⟨i, zv, z1, z2, hsz, ?_⟩
  cases hu : Zf5 P e
  ·rw [hu] at h2; cases h2
   exact .inr ⟨_, rfl, z3.rep m⟩
  ·rw [hu] at h2; simp only [cond_true] at h2
   split at h2
   ·rename_i c
    split at h2
    ·rename_i hc
     cases h2
     obtain ⟨rfl, _⟩ := ZdW hc
     simp only [VRs, VR] at z3
     obtain ⟨v, ws, e1, e2, e3⟩ := z3
     subst e2; subst e3
     refine .inl ⟨m, 0, rfl, ?_⟩
     show _ = (bys m 0).map Zd6
     rw [Zje, e1]
     simp [List.flatten_replicate_singleton, kc]
    ·cases h2
   ·cases h2
 ·cases h
theorem Zb7 (z : List Value) : ∀ m : Nat, (List.replicate m z).flatten.length = m * z.length
 | 0 => by simp
 | m + 1 => by rw [List.replicate_succ, List.flatten_cons, ZI5, Zb7 z m, Nat.succ_mul, Nat.add_comm]
theorem ZD7 (hR : Rel w0 σ hp n w) {x : CV} {vx : Value} (hx : VR σ x vx) {t ty : Nat} {ts : Array Nat} (h0 : ts[0]? = some t) (h : Zz (Zvu P hp n t x k) φ) :
  LR P w0 σ n w (do pure (Next.value (<- Builtin.clear_ ts ty #[vx])) : Sem Next) k φ := by
 unfold Zvu at h
 split at h
 ·rename_i kt et hd; simp only [VR] at hx; subst hx
  exact LR.val (v := .tuple #[]) (by simp [Builtin.clear_, h0, run_underlying (Zd hd)]) Zca hR (Ex.refl _ _) (Nle.refl _) h
 ·rename_i kt et b hd; simp only [VR] at hx; obtain ⟨p, u, hs, rfl⟩ := hx
  split at h
  ·rename_i es clock hb
   obtain ⟨ms, g1, g2⟩ := hR.at hs hb (by simp)
   refine LR.val (v := .tuple #[]) (w' := Zjc w p (.map #[] clock)) (by simp [Builtin.clear_, h0, run_underlying (Zd hd), Ym g2, YG g2]) Zca (hR.put (c := .map [] clock) hs (by rw [hb]; simp) (fun hh => ⟨[], rfl, hh⟩)) (Ex.refl _ _) (Nle.refl _) h
  ·exact h.no.elim
 ·rename_i e hd; simp only [VR] at hx; subst hx
  exact LR.val (v := .tuple #[]) (by simp [Builtin.clear_, h0, run_underlying (Zd hd)]) Zca hR (Ex.refl _ _) (Nle.refl _) h
 ·rename_i e b o s l kk ex hd
  have hu := Zd hd
  simp only [VR] at hx; obtain ⟨p, u, o', C, hsb, rfl, hlk, hkc, hex, ho, hle, heq⟩ := hx
  split at h
  ·exact LR.val (v := .tuple #[]) (by simp [Builtin.clear_, h0, run_underlying hu]) Zca hR (Ex.refl _ _) (Nle.refl _) h
  ·rename_i hl0
   obtain ⟨l', rfl⟩ : ∃ l', l = l' + 1 := ⟨l - 1, by have h9 : l ≠ 0 := (fun e => hl0 e); omega⟩
   have hoo := ho (.inl (by omega)); subst hoo
   have go : ∀ {ck : Ck} {el : Els} {hp' : H}, Zo8 P e s (l' + 1) = some ck -> (∀ i zv, P.info? e = some i -> i.zero = some zv -> zv.cells.size = s -> ZmB σ el (List.replicate (l' + 1) zv.cells.toList).flatten) →
     Zgn hp b o' el = some hp' -> Zz (k (.tup []) hp' n) φ -> LR P w0 σ n w (do pure (Next.value (<- Builtin.clear_ ts ty #[.slice (some ⟨p, o', none⟩) (l' + 1) C])) : Sem Next) k φ := by
    intro ck el hp' hz he hlay hk
    obtain ⟨i, zv, z1, z2, z3, _⟩ := Zgu (σ := σ) hz
    have hsp : (l' + 1) * s <= C * s := ZIR _ (by omega)
    obtain ⟨w', r1, r2⟩ := ZcR (P := P) hR hlay hsb (he i zv z1 z2 z3) (by rw [Zb7, Array.length_toList, z3]; omega)
    exact LR.val (ZeP (ty := ty) (cap := C) h0 hu z1 z2 r1) Zca r2 (Ex.refl _ _) (Nle.refl _) hk
   split at h
   ·rename_i m x hz
    split at h
    ·rename_i hp' hlay
     refine go hz (fun i zv y1 y2 y3 => ?_) hlay h
     obtain ⟨i', zv', z1, z2, z3, z4⟩ := Zgu (σ := σ) hz
     rw [y1] at z1; cases z1; rw [y2] at z2; cases z2
     rcases z4 with ⟨_, _, e1, e2⟩ | ⟨_, e1, _⟩
     ·cases e1; exact e2
     ·cases e1
    ·exact h.no.elim
   ·rename_i cs hz
    split at h
    ·rename_i hp' hlay
     refine go hz (fun i zv y1 y2 y3 => ?_) hlay h
     obtain ⟨i', zv', z1, z2, z3, z4⟩ := Zgu (σ := σ) hz
     rw [y1] at z1; cases z1; rw [y2] at z2; cases z2
     rcases z4 with ⟨_, _, e1, _⟩ | ⟨_, e1, e2⟩
     ·cases e1
     ·cases e1; exact e2
    ·exact h.no.elim
   ·exact h.no.elim
 ·exact h.no.elim
/-! ### Conversions -/
theorem Rel.same (h : Rel w0 σ hp n w) {i p t : Nat} (hs : σ i = some (p, t)) (hl : ZO hp i ≠ .no) {w' : World} (hz : w'.heap.size = w.heap.size) (hb : ∀ k, k ≠ p -> w'.heap[k]? = w.heap[k]?)
  (ho : w'.os = w.os) (ht : w'.tape = w.tape) (hu : w'.output = w.output) (hc : holds σ w' p t (ZO hp i)) : Rel w0 σ hp n w' := by
 have hi := (h.old i p t hs).1
 refine ⟨fun j hj hjc => ?_, h.apart, fun j q u hj => ?_, h.fresh, h.lim, ?_⟩
 ·by_cases e : j = i
  ·subst e; exact ⟨p, t, hs, hc⟩
  ·obtain ⟨q, u, h1, h2⟩ := h.hold j hj hjc
   exact ⟨q, u, h1, h2.congr (hb q (fun e' => h.apart j i q u p t hj hi hjc hl e h1 hs e'))⟩
 ·obtain ⟨a, b, c⟩ := h.old j q u hj; exact ⟨a, b, by rw [hz]; exact c⟩
 ·exact h.below.trans ⟨ho, ht, hu, by rw [hz]; exact ZIQ _, fun k hk => hb k (fun e => by have := (h.old i p t hs).2.1; omega)⟩
theorem ZlO {p : Nat} {arr : Array Value} {ty : TypeId} {lo hi : Nat} {o : Nat} (g : w.heap[p]? = some (.cells arr ty (lo, hi))) (hf : (lo = 0 /\ hi = 0) \/ arr.size <= lo) :
  ∃ w' lo' hi', (markStringish ⟨p, o, none⟩).run P w = .ok () w' /\ w'.heap[p]? = some (.cells arr ty (lo', hi')) /\ arr.size <= lo' /\ w'.heap.size = w.heap.size /\ (∀ k, k ≠ p -> w'.heap[k]? = w.heap[k]?) /\ w'.os = w.os /\ w'.tape = w.tape /\ w'.output = w.output := by
 have hsh : w.shape? p = some (ty, arr.size) := by simp [World.shape?, g]
 have hlt := (Array.getElem?_eq_some_iff.1 g).1
 have hval := (Array.getElem?_eq_some_iff.1 g).2
 refine ⟨w.freeze ⟨p, arr.size, none⟩ 1, if lo == hi then arr.size else min lo arr.size, if lo == hi then arr.size + 1 else max hi (arr.size + 1), ?_, ?_, ?_, ?_, fun k hk => ?_, rfl, rfl, rfl⟩
 ·simp [markStringish, hsh]
 ·simp only [World.freeze, Nat.one_ne_zero, if_false]
  rw [Array.getElem?_modify]
  simp only [if_true, g, Option.map_some]
  split <;> rfl
 ·rcases hf with ⟨rfl, rfl⟩ | hf
  ·simp
  ·split <;> omega
 ·simp [World.freeze]
 ·simp only [World.freeze, Nat.one_ne_zero, if_false]
  rw [Array.getElem?_modify, if_neg (fun e => hk e.symm)]
theorem ZGE (hR : Rel w0 σ hp n w) (hL : ∀ x, VR σ (lk fr x) (ev x)) {src dst : Nat} {x : Operand} (h : Zz (ZDe P fr hp n src dst x k) φ) :
  LR P w0 σ n w (do pure (Next.value (<- convert src dst (ev x))) : Sem Next) k φ := by
 unfold ZDe at h
 have hx := hL x
 split at h
 ·rename_i e l m hd he; rw [he] at hx; simp only [VR] at hx
  split at h
  ·rename_i ds hds
   obtain ⟨hu8, h2⟩ := h.bif
   clear h
   have h1 := Zd hds
   have h3 := Zd hd
   have h4 := ZcO hu8
   have ha : (⟨(bys l m).toArray⟩ : ByteArray).data.map (fun b => Value.int .u8 b.toNat) = ((bys l m).map Zd6).toArray := by apply Array.ext'; simp [Zd6]
   have hsz : (⟨(bys l m).toArray⟩ : ByteArray).size = l := by simp [ByteArray.size, Zw]
   have hconv : (convert src dst (ev x)).run P w = (Conv.stringToBytes e ⟨(bys l m).toArray⟩).run P w := by
    rw [hx]; cases ds <;> simp [convert, run_underlying h1, run_underlying h3, run_underlying h4]
   obtain ⟨C, hC1, hC2⟩ : ∃ C, l <= C /\ (choose (.appendCap l 0 e)).run P w = .ok C w.drew := ⟨(Question.appendCap l 0 e).cut (w.tape w.drawn (.appendCap l 0 e)), by simp [Question.cut], by simp [choose, Sem.run, Question.forced]⟩
   have hnr : ((((bys l m).map Zd6).toArray ++ Array.replicate (C - l) (.int .u8 0)) : Array Value).toList = (bys l m).map Zd6 ++ List.replicate (C - l) (.int .u8 0) := by simp
   generalize hA : ((((bys l m).map Zd6).toArray ++ Array.replicate (C - l) (.int .u8 0)) : Array Value) = A at hnr
   have hAs : A.size = C := by rw [<- hA]; simp [Zw]; omega
   have hRd : Rel w0 σ hp n w.drew := hR.drew _
   obtain ⟨w', lo', hi', f1, f2, f3, f4, f5, f6, f7, f8⟩ := ZlO (P := P) (w := { w.drew with heap := w.heap.push (.cells A e) }) (p := w.heap.size) (o := 0) (Yv w.drew _) (.inl ⟨rfl, rfl⟩)
   obtain ⟨σ', s1, s2, s3, s4, s5⟩ := ZQ hRd h2 (.cells A e) C (fun τ hle _ => by
    have := Row.new (w := w.drew) (vs := (bys l m).map Zd6) (arr := A) (ty := e) (fz := true) (spare := _) hnr
    rw [hAs] at this; exact this)
   have hR2 := s2.same s1 (by rw [Ya _ _ _ _ (s2.old _ _ _ s1).1 (s2.old _ _ _ s1).1, if_pos rfl]; simp) f4 f5 f6 f7 f8 (by
    rw [Ya _ _ _ _ (s2.old _ _ _ s1).1 (s2.old _ _ _ s1).1, if_pos rfl]
    exact ⟨A, e, lo', hi', f2, hAs, ⟨_, hnr⟩, .inr ⟨rfl, by rw [<- hAs]; exact f3⟩⟩)
   refine LR.val (v := .slice (some ⟨w.heap.size, 0, none⟩) l C) ?_ ?_ hR2 s3 s4 s5
   ·rw [hconv]
    simp only [Conv.stringToBytes, Sem.run_bind, hsz, hC2, Result.andThen_ok, ha, hA, YI]
    have f1' : (markStringish ⟨w.drew.heap.size, 0, none⟩).run P { w.drew with heap := w.drew.heap.push (.cells A e) } = .ok () w' := f1
    rw [f1']; rfl
   ·simp only [VR]
    exact ⟨_, _, _, _, s1, rfl, ZIQ _, hC1, fun e => (by cases e), fun _ => rfl, by omega, fun _ _ => (by omega)⟩
  ·exact h.no.elim
 ·rename_i e b o s l kk ex hd he; rw [he] at hx
  have hx0 := hx
  simp only [VR] at hx; obtain ⟨p, u, o', C, hsb, hv, hlk, hkc, hex, ho, hle, heq⟩ := hx
  split at h
  ·rename_i e2 hds
   obtain ⟨hc, h2⟩ := h.bif
   clear h
   obtain ⟨hq, hu8⟩ : src = dst /\ Zf5 P e = true := by
    cases hq : Nat.beq src dst
    ·rw [hq] at hc; cases hc
    ·rw [hq] at hc; exact ⟨ZI1 hq, hc⟩
   subst hq
   have h1 := Zd hds
   have h3 := Zd hd
   have h4 := ZcO hu8
   split at h2
   ·rename_i k' y hb
    obtain ⟨arr, ty, lo, hi, g1, g2, g3, g4⟩ := hR.at hsb hb (by simp)
    obtain ⟨w', lo', hi', f1, f2, f3, f4, f5, f6, f7, f8⟩ := ZlO (P := P) (o := o') g1 (g4.imp id (fun q => by rw [g2]; exact q.2))
    refine LR.val (w' := w') (v := ev x) ?_ hx0 (hR.same hsb (by rw [hb]; simp) f4 f5 f6 f7 f8 (by rw [hb]; exact ⟨arr, ty, lo', hi', f2, g2, g3, .inr ⟨rfl, by rw [<- g2]; exact f3⟩⟩)) (Ex.refl _ _) (Nle.refl _) h2
    rw [hv]
    simp [convert, run_underlying h3, run_underlying h4, f1]
   ·exact h2.no.elim
  ·exact h.no.elim
 ·obtain ⟨c, v, g1, g2, g3⟩ := ZAZ (k := fun v => k v hp n) hR hL h
  exact LR.val g1 g2 hR (Ex.refl _ _) (Nle.refl _) g3
end
end Go.Cx
namespace Go.Cx
open Go.RowKit (Below)
theorem ZEy {a b : Bool} (h : bbq a b = true) : a = b := by cases a <;> cases b <;> first | rfl | cases h
theorem ibq_t {a b : Int} (h : ibq a b = true) : a = b := by rw [ZbK] at h; simpa using h
theorem nbq {a b : Nat} (h : Nat.beq a b = true) : a = b := ZI1 h
theorem Yq {a b : Bool} (h : (bif a then b else false) = true) : a = true /\ b = true := by cases a <;> cases b <;> first | exact ⟨rfl, rfl⟩ | cases h
mutual
theorem CV.bq_t : ∀ {a b : CV}, CV.bq a b = true -> a = b
 | .int k a, .int j b, h => by simp only [CV.bq] at h; obtain ⟨h1, h2⟩ := Yq h; rw [nbq h1, ibq_t h2]
 | .bool a, .bool b, h => by simp only [CV.bq] at h; rw [ZEy h]
 | .str l n, .str k m, h => by simp only [CV.bq] at h; obtain ⟨h1, h2⟩ := Yq h; rw [nbq h1, nbq h2]
 | .ptr b o, .ptr c p, h => by simp only [CV.bq] at h; obtain ⟨h1, h2⟩ := Yq h; rw [nbq h1, nbq h2]
 | .nilp, .nilp, _ => rfl
 | .slice b o s l k e, .slice b' o' s' l' k' e', h => by
  simp only [CV.bq] at h
  obtain ⟨h1, h⟩ := Yq h; obtain ⟨h2, h⟩ := Yq h; obtain ⟨h3, h⟩ := Yq h; obtain ⟨h4, h⟩ := Yq h; obtain ⟨h5, h6⟩ := Yq h
  rw [nbq h1, nbq h2, nbq h3, nbq h4, nbq h5, ZEy h6]
 | .nils, .nils, _ => rfl
 | .map b, .map c, h => by simp only [CV.bq] at h; rw [nbq h]
 | .nilm, .nilm, _ => rfl
 | .fn f l l', .fn g m m', h => by
  simp only [CV.bq] at h
  obtain ⟨h1, h⟩ := Yq h; obtain ⟨h2, h3⟩ := Yq h
  rw [nbq h1, CVs.bq_t h2, CVs.bq_t h3]
 | .mth a v, .mth b w, h => by
  simp only [CV.bq] at h
  obtain ⟨h1, h2⟩ := Yq h
  rw [CV.bq_t h2, show a = b by simpa using h1]
 | .yld a, .yld b, h => by simp only [CV.bq] at h; rw [nbq h]
 | .nilf, .nilf, _ => rfl
 | .ifc t v, .ifc u w, h => by simp only [CV.bq] at h; obtain ⟨h1, h2⟩ := Yq h; rw [nbq h1, CV.bq_t h2]
 | .nili, .nili, _ => rfl
 | .agg l, .agg m, h => by simp only [CV.bq] at h; rw [CVs.bq_t h]
 | .tup l, .tup m, h => by simp only [CV.bq] at h; rw [CVs.bq_t h]
theorem CVs.bq_t : ∀ {a b : List CV}, CVs.bq a b = true -> a = b
 | [], [], _ => rfl
 | a :: l, b :: m, h => by simp only [CVs.bq] at h; obtain ⟨h1, h2⟩ := Yq h; rw [CV.bq_t h1, CVs.bq_t h2]
end
mutual
theorem ZpL {σ : Sg} : ∀ {c : CV} {v v' : Value}, CV.det c = true -> VR σ c v -> VR σ c v' -> v = v'
 | .int _ _, _, _, _, h, k => by simp only [VR] at h k; rw [h, k]
 | .bool _, _, _, _, h, k => by simp only [VR] at h k; rw [h, k]
 | .str _ _, _, _, _, h, k => by simp only [VR] at h k; rw [h, k]
 | .ptr _ _, _, _, _, h, k => by
  simp only [VR] at h k; obtain ⟨p, t, h1, h2⟩ := h; obtain ⟨q, u, k1, k2⟩ := k
  rw [h1] at k1; cases k1; rw [h2, k2]
 | .nilp, _, _, _, h, k => by simp only [VR] at h k; rw [h, k]
 | .slice b o s l kk ex, _, _, hd, h, k => by
  simp only [VR] at h k
  obtain ⟨p, t, o1, c1, h1, h2, h3, h4, h5, h6, h7, h8⟩ := h
  obtain ⟨q, u, o2, c2, k1, k2, k3, k4, k5, k6, k7, k8⟩ := k
  rw [h1] at k1; cases k1
  simp only [CV.det] at hd
  cases ex
  ·simp only [cond_false] at hd
   obtain ⟨d1, d2⟩ := Yq hd
   have d1 := ZJd d1
   have d2 := ZJd d2
   have e1 := h6 (.inl (by omega)); have e2 := k6 (.inl (by omega))
   subst e1; subst e2
   have g1 := h8 rfl (by omega); have g2 := k8 rfl (by omega)
   have : c1 * s = c2 * s := by omega
   have := Nat.eq_of_mul_eq_mul_right (by omega) this
   rw [h2, k2, this]
  ·have e1 := h6 (.inr rfl); have e2 := k6 (.inr rfl)
   have g1 := h5 rfl; have g2 := k5 rfl
   rw [h2, k2, e1, e2, g1, g2]
 | .nils, _, _, _, h, k => by simp only [VR] at h k; rw [h, k]
 | .map _, _, _, _, h, k => by
  simp only [VR] at h k; obtain ⟨p, t, h1, h2⟩ := h; obtain ⟨q, u, k1, k2⟩ := k
  rw [h1] at k1; cases k1; rw [h2, k2]
 | .nilm, _, _, _, h, k => by simp only [VR] at h k; rw [h, k]
 | .fn _ a b, _, _, hd, h, k => by
  simp only [CV.det] at hd; obtain ⟨d1, d2⟩ := Yq hd
  simp only [VR] at h k; obtain ⟨u, v, h1, h2, h3⟩ := h; obtain ⟨u', v', k1, k2, k3⟩ := k
  rw [h3, k3, Zhw d1 h1 k1, Zhw d2 h2 k2]
 | .mth _ c, _, _, hd, h, k => by
  simp only [CV.det] at hd
  simp only [VR] at h k; obtain ⟨u, h1, h3⟩ := h; obtain ⟨u', k1, k3⟩ := k
  rw [h3, k3, ZpL hd h1 k1]
 | .yld _, _, _, _, h, k => by
  simp only [VR] at h k; obtain ⟨p, t, h1, h2⟩ := h; obtain ⟨q, u, k1, k2⟩ := k
  rw [h1] at k1; cases k1; rw [h2, k2]
 | .nilf, _, _, _, h, k => by simp only [VR] at h k; rw [h, k]
 | .ifc _ c, _, _, hd, h, k => by
  simp only [CV.det] at hd
  simp only [VR] at h k; obtain ⟨u, h1, h3⟩ := h; obtain ⟨u', k1, k3⟩ := k
  rw [h3, k3, ZpL hd h1 k1]
 | .nili, _, _, _, h, k => by simp only [VR] at h k; rw [h, k]
 | .agg c, _, _, hd, h, k => by
  simp only [CV.det] at hd
  simp only [VR] at h k; obtain ⟨u, h1, h3⟩ := h; obtain ⟨u', k1, k3⟩ := k
  rw [h3, k3, Zhw hd h1 k1]
 | .tup c, _, _, hd, h, k => by
  simp only [CV.det] at hd
  simp only [VR] at h k; obtain ⟨u, h1, h3⟩ := h; obtain ⟨u', k1, k3⟩ := k
  rw [h3, k3, Zhw hd h1 k1]
 | .junk, _, _, hd, _, _ => by simp only [CV.det] at hd; cases hd
theorem Zhw {σ : Sg} : ∀ {c : List CV} {v v' : List Value}, CVs.det c = true -> VRs σ c v -> VRs σ c v' -> v = v'
 | [], _, _, _, h, k => by simp only [VRs] at h k; rw [h, k]
 | a :: c, _, _, hd, h, k => by
  simp only [CVs.det] at hd; obtain ⟨d1, d2⟩ := Yq hd
  simp only [VRs] at h k; obtain ⟨u, v, rfl, h1, h2⟩ := h; obtain ⟨u', v', rfl, k1, k2⟩ := k
  rw [ZpL d1 h1 k1, Zhw d2 h2 k2]
end
theorem Ents.bq_t : ∀ {a b : List Ent}, Ents.bq a b = true -> a = b
 | [], [], _ => rfl
 | ⟨k, v, s⟩ :: l, ⟨k', v', s'⟩ :: m, h => by
  simp only [Ents.bq] at h
  obtain ⟨h1, h⟩ := Yq h; obtain ⟨h2, h⟩ := Yq h; obtain ⟨h3, h4⟩ := Yq h
  rw [nbq h1, CV.bq_t h2, CV.bq_t h3, Ents.bq_t h4]
theorem ZBD : ∀ {a b : List Nat}, nats a b = true -> a = b
 | [], [], _ => rfl
 | a :: l, b :: m, h => by simp only [nats] at h; obtain ⟨h1, h2⟩ := Yq h; rw [nbq h1, ZBD h2]
theorem Ck.bq_t {a b : Ck} (h : Ck.bq a b = true) : a = b := by
 unfold Ck.bq at h
 split at h
 ·rw [CVs.bq_t h]
 ·obtain ⟨h1, h2⟩ := Yq h; rw [nbq h1, nbq h2]
 ·obtain ⟨h1, h2⟩ := Yq h; rw [nbq h1, Ents.bq_t h2]
 ·obtain ⟨h1, h⟩ := Yq h; obtain ⟨h2, h⟩ := Yq h; obtain ⟨h3, h4⟩ := Yq h; rw [nbq h1, nbq h2, ZBD h3, nbq h4]
 ·obtain ⟨h1, h⟩ := Yq h; obtain ⟨h2, h3⟩ := Yq h; rw [nbq h1, nbq h2, nbq h3]
 ·rfl
 ·rfl
 ·rfl
 ·cases h
structure Wk (x y : Out) : Prop where
 v : ∀ σ v, VR σ x.v v -> VR σ y.v v
 hp : ∀ i, ZO y.hp i = ZO x.hp i \/ ZO y.hp i = .no
 n : x.n <= y.n
theorem Wk.refl (x : Out) : Wk x x := ⟨fun _ _ h => h, fun _ => .inl rfl, ZIQ _⟩
theorem Wk.trans {x y z : Out} (h : Wk x y) (k : Wk y z) : Wk x z :=
 ⟨fun σ v hv => k.v σ v (h.v σ v hv), fun i => by
  rcases k.hp i with e | e
  ·rw [e]; exact h.hp i
  ·exact .inr e, Nat.le_trans h.n k.n⟩
theorem Zs6 {α : Type} (f : α -> α -> α) (a b : O α) (d : Nat) : og (om f a b) d = f (og a d) (og b d) := by
 obtain ⟨c0, c1, c2, c3, c4, c5, c6, c7⟩ := a
 obtain ⟨e0, e1, e2, e3, e4, e5, e6, e7⟩ := b
 match d with
 | 0 => rfl | 1 => rfl | 2 => rfl | 3 => rfl | 4 => rfl | 5 => rfl | 6 => rfl | 7 => rfl | _ + 8 => rfl
theorem Zk1 (a b : H) (i : Nat) : ZO (H.meet a b) i = Ck.meet (ZO a i) (ZO b i) := by
 unfold ZO H.meet
 rw [Zs6, Zs6, Zs6, Zs6, Zs6]
theorem Ck.meet_l (a b : Ck) : Ck.meet a b = a \/ Ck.meet a b = .no := by
 unfold Ck.meet; cases Ck.bq a b <;> simp
theorem Ck.meet_r (a b : Ck) : Ck.meet a b = b \/ Ck.meet a b = .no := by
 unfold Ck.meet
 cases h : Ck.bq a b
 ·exact .inr rfl
 ·exact .inl (Ck.bq_t h)
theorem Zvq {σ : Sg} {a b : CV} {v : Value} (h : VR σ a v) : VR σ (CV.meet1 a b) v := by
 unfold CV.meet1; cases CV.bq a b
 ·simp only [cond_false, VR]
 ·exact h
theorem Zuu {σ : Sg} {a b : CV} {v : Value} (h : VR σ b v) : VR σ (CV.meet1 a b) v := by
 unfold CV.meet1; cases hb : CV.bq a b
 ·simp only [cond_false, VR]
 ·simp only [cond_true]; rw [CV.bq_t hb]; exact h
theorem Zw6 {σ : Sg} : ∀ {a b : List CV} {v : List Value}, a.length = b.length -> VRs σ a v -> VRs σ (CVs.meet a b) v
 | [], [], _, _, h => h
 | x :: a, y :: b, v, hl, h => by
  simp only [VRs] at h; obtain ⟨u, ws, rfl, h1, h2⟩ := h
  simp only [CVs.meet, VRs]; exact ⟨u, ws, rfl, Zvq h1, Zw6 (by simpa using hl) h2⟩
theorem ZvU {σ : Sg} : ∀ {a b : List CV} {v : List Value}, a.length = b.length -> VRs σ b v -> VRs σ (CVs.meet a b) v
 | [], [], _, _, h => h
 | x :: a, y :: b, v, hl, h => by
  simp only [VRs] at h; obtain ⟨u, ws, rfl, h1, h2⟩ := h
  simp only [CVs.meet, VRs]; exact ⟨u, ws, rfl, Zuu h1, ZvU (by simpa using hl) h2⟩
theorem CV.meet_l {σ : Sg} {a b : CV} {v : Value} (h : VR σ a v) : VR σ (CV.meet a b) v := by
 unfold CV.meet
 split
 ·rename_i l m
  cases hl : Nat.beq l.length m.length
  ·simp only [cond_false, VR]
  ·simp only [VR] at h; obtain ⟨vs, h1, h2⟩ := h
   simp only [cond_true, VR]; exact ⟨vs, Zw6 (nbq hl) h1, h2⟩
 ·exact Zvq h
theorem CV.meet_r {σ : Sg} {a b : CV} {v : Value} (h : VR σ b v) : VR σ (CV.meet a b) v := by
 unfold CV.meet
 split
 ·rename_i l m
  cases hl : Nat.beq l.length m.length
  ·simp only [cond_false, VR]
  ·simp only [VR] at h; obtain ⟨vs, h1, h2⟩ := h
   simp only [cond_true, VR]; exact ⟨vs, ZvU (nbq hl) h1, h2⟩
 ·exact Zuu h
theorem ZA3 (a b : Out) : a.n <= (Out.meet a b).n /\ b.n <= (Out.meet a b).n := by
 show a.n <= (bif Nat.ble a.n b.n then b.n else a.n) /\ b.n <= (bif Nat.ble a.n b.n then b.n else a.n)
 cases h : Nat.ble a.n b.n
 ·have := Zqe h; simp only [cond_false]; omega
 ·have := ZJd h; simp only [cond_true]; omega
theorem Wk.meet_l (a b : Out) : Wk a (Out.meet a b) :=
 ⟨fun σ v h => CV.meet_l h, fun i => by show ZO (H.meet a.hp b.hp) i = _ \/ ZO (H.meet a.hp b.hp) i = _; rw [Zk1]; exact Ck.meet_l _ _, (ZA3 a b).1⟩
theorem Wk.meet_r (a b : Out) : Wk b (Out.meet a b) :=
 ⟨fun σ v h => CV.meet_r h, fun i => by show ZO (H.meet a.hp b.hp) i = _ \/ ZO (H.meet a.hp b.hp) i = _; rw [Zk1]; exact Ck.meet_r _ _, (ZA3 a b).2⟩
theorem Wk.meets : ∀ (l : List Out) (o x : Out), x ∈ o :: l -> Wk x (meets o l)
 | [], o, x, h => by simp only [ZIT] at h; subst h; exact Wk.refl _
 | p :: l, o, x, h => by
  simp only [Go.Cx.meets]
  rcases List.mem_cons.1 h with rfl | h
  ·exact (Wk.meet_l x p).trans (Wk.meets l _ _ ZI8)
  ·rcases List.mem_cons.1 h with rfl | h
   ·exact (Wk.meet_r o x).trans (Wk.meets l _ _ ZI8)
   ·exact Wk.meets l _ _ (ZI6 _ h)
theorem Rel.weak {w0 : World} {σ : Sg} {hp hp' : H} {n m : Nat} {w : World} (h : Rel w0 σ hp n w) (hh : ∀ i, ZO hp' i = ZO hp i \/ ZO hp' i = .no) (hm : Nle n m) : Rel w0 σ hp' m w := by
 have key : ∀ i, ZO hp' i ≠ .no -> ZO hp' i = ZO hp i /\ ZO hp i ≠ .no := fun i hi => by
  rcases hh i with e | e
  ·exact ⟨e, by rw [<- e]; exact hi⟩
  ·exact absurd e hi
 refine ⟨fun i hi hc => ?_, fun i j p t q u hi hj h1 h2 => h.apart i j p t q u hi hj (key i h1).2 (key j h2).2, h.old, fun i h1 h2 => h.fresh i (Nat.le_trans hm.1 h1) (by rw [<- hm.2]; exact h2), by rw [hm.2]; exact h.lim, h.below⟩
 obtain ⟨e, hc'⟩ := key i hc
 obtain ⟨p, t, h1, h2⟩ := h.hold i hi hc'
 exact ⟨p, t, h1, by rw [e]; exact h2⟩
/-! ### Behind a call -/
section
variable {P : Program} {w0 : World} {σ : Sg} {hp : H} {n : Nat} {w : World} {k : KS} {φ : Out -> Prop}
def Ret (w0 : World) (σ : Sg) (n : Nat) (l : List Out) (v : Value) (w' : World) : Prop := ∃ o σ', o ∈ l /\ VR σ' o.v v /\ Rel w0 σ' o.hp o.n w' /\ Ex n σ σ' /\ Nle n o.n
def ZyA (w0 : World) (σ : Sg) (n : Nat) (k : KS) (φ : Out -> Prop) (v : Value) (w' : World) : Prop := ∃ c hp' n' σ', VR σ' c v /\ Rel w0 σ' hp' n' w' /\ Ex n σ σ' /\ Nle n n' /\ Zz (k c hp' n') φ
theorem Ziu : ∀ {l : List Out} {o : Out}, Zz (ZzM k o l) φ -> ∀ x ∈ o :: l, Zz (k x.v x.hp x.n) φ
 | [], o, h, x, hx => by simp only [ZIT] at hx; subst hx; exact h
 | p :: l, o, h, x, hx => by
  simp only [ZzM] at h
  obtain ⟨h1, h2⟩ := h.cat
  rcases List.mem_cons.1 hx with rfl | hx
  ·exact h1
  ·exact Ziu h2 x hx
theorem Zb5 {mg : Bool} {r : Res} (h : Zz (after mg n r k) φ) : ∃ l, r = some l /\ ∀ v w', Ret w0 σ n l v w' -> ZyA w0 σ n k φ v w' := by
 unfold after at h
 split at h
 ·exact h.no.elim
 ·rename_i l
  refine ⟨l, rfl, ?_⟩
  rintro v w' ⟨o, σ', ho, hv, hR, hx, hn⟩
  split at h
  ·exact h.no.elim
  ·rename_i o1 os
   split at h
   ·simp only [ZIT] at ho; subst ho
    exact ⟨_, _, _, _, hv, hR, hx, hn, h⟩
   ·rename_i p os
    cases mg
    ·exact ⟨_, _, _, _, hv, hR, hx, hn, Ziu h o ho⟩
    ·simp only [cond_true] at h
     obtain ⟨hl, h2⟩ := h.bif
     have hw := Wk.meets (p :: os) o1 o ho
     have hl := nbq hl
     have hnm : Nle o.n (meets o1 (p :: os)).n := by
      refine ⟨?_, by rw [hl, hn.2]⟩
      have h1 := hw.n
      have h3 := hn.2
      unfold Y1 at hl h3; unfold idN; omega
     exact ⟨_, _, _, _, hw.v _ _ hv, hR.weak hw.hp hnm, hx, hn.trans hnm, h2⟩
end
end Go.Cx
namespace Go.Cx
open Go.RowKit (Below)
def FF (ro : Option Nat) : Fence := { Fence.wide with round := ro }
theorem Zp3 {ro ro' : Option Nat} {P : Program} {f : FuncId} {args : Array Value} {w : World} {R : Ending -> World -> Prop} (h : CallsIn (FF ro) 0 P f args w R) : CallsIn (FF ro') 0 P f args w R := h
theorem Zzp {ro ro' : Option Nat} {P : Program} {l f : Nat} {tm : Array Value} {asg bo : Code} {w : World} {R : Ending -> World -> Prop} (h : RoundIn (FF ro) 0 P l f tm asg bo w R) : RoundIn (FF ro') 0 P l f tm asg bo w R := h
section
variable {P : Program} {w0 : World}
def ZfR (P : Program) (w0 : World) (f : Nat) (c : Cn) : Prop := ∀ args hp n σ w xs l, Rel w0 σ hp n w -> VRs σ args xs -> c args hp n = some l →
 (∃ v w', (callFunc f xs.toArray).run P w = .ok (.value v) w' /\ Ret w0 σ n l v w') ∨
 ((callFunc f xs.toArray).run P w = .ok (.enter f xs.toArray) w /\ CallsIn (FF none) 0 P f xs.toArray w (fun e w' => ∃ v, e = .returned v /\ Ret w0 σ n l v w'))
def ZcL (P : Program) (w0 : World) (f : Nat) (c : Cn) : Prop := ∀ args hp n σ w xs l, Rel w0 σ hp n w -> VRs σ args xs -> c args hp n = some l →
 (callFunc f xs.toArray).run P w = .ok (.enter f xs.toArray) w /\ CallsIn (FF none) 0 P f xs.toArray w (fun e w' => ∃ v, e = .returned v /\ Ret w0 σ n l v w')
theorem ZcL.call {f : Nat} {c : Cn} (h : ZcL P w0 f c) : ZfR P w0 f c := fun args hp n σ w xs l h1 h2 h3 => .inr (h args hp n σ w xs l h1 h2 h3)
def ZCy (P : Program) (w0 : World) (l : Nat) (c : Cn) : Prop := ∀ args hp n σ w xs os p t, Rel w0 σ hp n w -> VRs σ args xs -> σ l = some (p, t) -> c args hp n = some os →
 ∃ f tm asg bo, (Instr.yield p xs.toArray).run P w = .ok (.round p f tm asg bo) w /\ RoundIn (FF none) 0 P p f tm asg bo w (fun e w' => ∃ v, e = .returned v /\ Ret w0 σ n os v w')
structure CsOk (P : Program) (w0 : World) (ctrs : List (Nat × Option Cn)) (bd rd : Nat -> Cn) : Prop where
 ctr : ∀ f c, ZT ctrs f = some (some c) -> ZfR P w0 f c
 bd : ∀ f, ZcL P w0 f (bd f)
 rd : ∀ l, ZCy P w0 l (rd l)
variable {σ : Sg} {hp : H} {n : Nat} {w : World} {k : KS} {φ : Out -> Prop}
def Yz (P : Program) (w0 : World) (σ : Sg) (n : Nat) (k : KS) (φ : Out -> Prop) (w : World) (r : Result Next) : Prop :=
 (∃ v w', r = .ok (.value v) w' /\ ZyA w0 σ n k φ v w') \/ (∃ w', r = .ok .skip w' /\ ZyA w0 σ n k φ undef w') ∨
 (∃ f xs, r = .ok (.enter f xs) w /\ CallsIn (FF none) 0 P f xs w (fun e w' => ∃ v, e = .returned v /\ ZyA w0 σ n k φ v w')) ∨
 (∃ l f tm asg bo, r = .ok (.round l f tm asg bo) w /\ RoundIn (FF none) 0 P l f tm asg bo w (fun e w' => ∃ v, e = .returned v /\ ZyA w0 σ n k φ v w'))
theorem Yz.of_LR {s : Sem Next} (h : LR P w0 σ n w s k φ) : Yz P w0 σ n k φ w (s.run P w) := by
 obtain ⟨w', c, hp', n', σ', h1, hR, hx, hn, hk⟩ := h
 rcases h1 with ⟨v, h1, hv⟩ | ⟨h1, rfl⟩
 ·exact .inl ⟨v, w', h1, c, hp', n', σ', hv, hR, hx, hn, hk⟩
 ·exact .inr (.inl ⟨w', h1, _, hp', n', σ', Zca, hR, hx, hn, hk⟩)
theorem Yz.wpIn {o : Oper} {ro : Option Nat} {a : Act} {next : Act -> World -> Prop} {Q : Exit -> Act -> World -> Prop} (hnd : ∀ c, o.op ≠ .defer c) (h : Yz P w0 σ n k φ w ((execOp a.eval o).run P w))
  (hnext : ∀ v w', ZyA w0 σ n k φ v w' -> next (a.put o.dst v) w') : o.wpIn (FF ro) 0 P a w next Q := by
 refine ⟨fun f _ => trivial, ?_⟩
 rw [show (FF ro).round = ro from rfl, Oper.semAt_eq ro a.eval o hnd]
 rcases h with ⟨v, w', h, g⟩ | ⟨w', h, g⟩ | ⟨f, xs, h, g⟩ | ⟨l, f, tm, asg, bo, h, g⟩
 ·rw [h]; exact hnext _ _ g
 ·rw [h]; exact hnext _ _ g
 ·rw [h, Oper.uponIn_enter]
  refine ⟨fun h => (by cases h), CallsIn.mono (Zp3 g) fun e w' he => ?_⟩
  obtain ⟨v, rfl, hg⟩ := he
  exact hnext _ _ hg
 ·rw [h, Oper.uponIn_round]
  refine ⟨fun h => (by cases h), RoundIn.mono (Zzp g) fun e w' he => ?_⟩
  obtain ⟨v, rfl, hg⟩ := he
  exact hnext _ _ hg
theorem Yz.of_call {mg : Bool} {f : Nat} {c : Cn} {args : List CV} {xs : List Value} (hc : ZfR P w0 f c) (hR : Rel w0 σ hp n w) (hx : VRs σ args xs) (h : Zz (after mg n (c args hp n) k) φ) :
  Yz P w0 σ n k φ w ((callFunc f xs.toArray).run P w) := by
 obtain ⟨l, hl, hg⟩ := Zb5 h
 rcases hc args hp n σ w xs l hR hx hl with ⟨v, w', h1, h2⟩ | ⟨h1, h2⟩
 ·exact .inl ⟨v, w', h1, hg _ _ h2⟩
 ·refine .inr (.inr (.inl ⟨f, _, h1, CallsIn.mono h2 fun e w' he => ?_⟩))
  obtain ⟨v, rfl, hr⟩ := he
  exact ⟨v, rfl, hg _ _ hr⟩
variable {ctrs : List (Nat × Option Cn)} {bd rd : Nat -> Cn}
theorem Zd0 (hC : CsOk P w0 ctrs bd rd) (hR : Rel w0 σ hp n w) {f : Nat} {args : List CV} {xs : List Value} (hx : VRs σ args xs) (h : Zz (Zuo ctrs bd f args hp n k) φ) :
  Yz P w0 σ n k φ w ((callFunc f xs.toArray).run P w) := by
 unfold Zuo at h
 split at h
 ·rename_i c hc
  split at h
  ·exact Yz.of_call (hC.ctr _ _ hc) hR hx h
  ·exact Yz.of_call (hC.bd f).call hR hx h
 ·exact Yz.of_call (hC.bd f).call hR hx h
theorem ZpX (name : String) : ∀ l : List Method, ZAn name l = l.find? (fun m => m.name == name)
 | [] => rfl
 | m :: l => by
  unfold ZAn
  rw [List.find?_cons, ZpX name l]
  cases m.name == name <;> rfl
theorem ZfG {t f : Nat} {name : String} (h : Zf2 P t name = some f) (v : Value) (w : World) : (method (P.types.size + Made.depth) t v name).run P w = .ok (f, v) w := by
 unfold Zf2 at h
 split at h
 ·rename_i i hi
  have hsz : 0 < P.types.size := by
   unfold tyI at hi
   rw [ZoS, ZIP] at hi
   have := (Array.getElem?_eq_some_iff.1 hi).1; omega
  obtain ⟨fu, hfu⟩ : ∃ fu, P.types.size + Made.depth = fu + 1 := ⟨P.types.size + Made.depth - 1, by omega⟩
  rw [hfu]
  have hi := Zaa hi
  rw [ZpX, Array.find?_toList] at h
  split at h
  ·rename_i m hm
   split at h
   ·rename_i f' e hp hf ht
    cases h
    have hu := Zd ht
    simp [method, typeInfo, hi, hm, hp, follow, hf, receiverAt, run_underlying hu, Place.get]
   ·cases h
   ·rename_i f' d hd hp hf ht
    cases h
    have hu := Zd ht
    cases d <;> first | exact (hd _ rfl).elim | exact (hd _ _ rfl).elim | exact (hd _ _ hf rfl).elim | simp [method, typeInfo, hi, hm, hp, follow, hf, receiverAt, run_underlying hu, Place.get]
   ·cases h
  ·cases h
 ·cases h
end
end Go.Cx
