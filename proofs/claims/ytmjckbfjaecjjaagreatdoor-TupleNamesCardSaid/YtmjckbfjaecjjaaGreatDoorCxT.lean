/- The staged run answers as the plain one. -/
import Derived.Test.YtmjckbfjaecjjaaGreatDoorCxS
import Derived.Test.YtmjckbfjaecjjaaGreatDoorCxO
set_option linter.unusedVariables false
set_option linter.unusedSimpArgs false
set_option linter.unnecessarySimpa false
namespace Go.Cx
theorem pj_run {α : Type} (d : Nat) (o : O α) : (pj d).run o = og o d := by
  obtain ⟨c0, c1, c2, c3, c4, c5, c6, c7⟩ := o
  match d with
  | 0 => rfl | 1 => rfl | 2 => rfl | 3 => rfl | 4 => rfl | 5 => rfl | 6 => rfl | 7 => rfl | _ + 8 => rfl
theorem up_run {α : Type} (d : Nat) (f : α → α) (o : O α) : (up d).run f o = os f o d := by
  obtain ⟨c0, c1, c2, c3, c4, c5, c6, c7⟩ := o
  match d with
  | 0 => rfl | 1 => rfl | 2 => rfl | 3 => rfl | 4 => rfl | 5 => rfl | 6 => rfl | 7 => rfl | _ + 8 => rfl
theorem brec {α : Type} (b : Bool) (x y : α) : @Bool.rec (fun _ => α) y x b = bif b then x else y := by cases b <;> rfl
variable {fr : F}
theorem sTmp_eq (h : NJ fr) (t : Nat) : (sTmp t).run fr = fg fr t := by
  unfold sTmp
  cases hb : Nat.ble t 510
  · rfl
  · have ht := Nat.le_of_ble_eq_true hb
    show (@pj CV (t % 8)).run ((@pj (O CV) (t / 8 % 8)).run ((@pj (O (O CV)) (t / 64)).run fr.o)) = fg fr t
    rw [pj_run, pj_run, pj_run, fg_eq]
    have e : og (og (og fr.o (t / 64)) (t / 8 % 8)) (t % 8) = fget fr t := by obtain ⟨n, o⟩ := fr; rfl
    rw [e]
    cases hn : Nat.blt t fr.n
    · have : ¬ t < fr.n := fun e => by have h2 : Nat.blt t fr.n = true := (by simpa [Nat.blt_eq] using e); rw [hn] at h2; cases h2
      exact h t (by omega) (by omega)
    · rfl
theorem sOpd_eq (h : NJ fr) (x : Operand) : (sOpd x).run fr = lk fr x := by
  cases x with
  | tmp t => exact sTmp_eq h t
  | const v => rfl
  | global g => rfl
  | func f => rfl
theorem sOpds_eq (h : NJ fr) : ∀ l : List Operand, (sOpds l).run fr = lks fr l
  | [] => rfl
  | x :: l => by
    show (sOpd x).run fr :: (sOpds l).run fr = lk fr x :: lks fr l
    rw [sOpd_eq h, sOpds_eq h l]
theorem blt_ble (a b : Nat) : Nat.ble (Nat.succ a) b = Nat.blt a b := rfl
theorem sSet_eq (t : Nat) (v : CV) (fr : F) : (sSet t).run v fr = fset fr t v := by
  obtain ⟨n, o⟩ := fr
  unfold sSet fset
  simp only [up_run, brec, blt_ble]
  rfl
theorem sPut_eq (d : Option Nat) (v : CV) (fr : F) : (sPut d).run v fr = putD fr d v := by
  cases d with
  | none => rfl
  | some d => exact sSet_eq d v fr
theorem hgetS_eq (h : H) (i : Nat) : hgetS h i = hget h i := by
  unfold hgetS hget
  simp only [pj_run]
  rfl
theorem hsetS_eq (h : H) (i : Nat) (c : Ck) : hsetS h i c = hset h i c := by
  unfold hsetS hset
  simp only [up_run]
  rfl
/-! ### Numbers -/
theorem addS_eq (a b : Int) : addS a b = a + b := by
  cases a <;> cases b <;> rfl
theorem subS_eq (a b : Int) : subS a b = a - b := by
  cases a with
  | ofNat m =>
    cases b with
    | ofNat n =>
      show (@Bool.rec (fun _ => Int) (.negSucc (n - m - 1)) (.ofNat (m - n)) (Nat.ble n m)) = _
      cases h : Nat.ble n m
      · have : ¬ n ≤ m := fun e => by rw [Nat.ble_eq_true_of_le e] at h; cases h
        show Int.negSucc (n - m - 1) = (m : Int) - n
        rw [Int.negSucc_eq]; omega
      · have := Nat.le_of_ble_eq_true h
        show ((m - n : Nat) : Int) = (m : Int) - n
        omega
    | negSucc n => rfl
  | negSucc m => rfl
theorem ltS_eq (a b : Int) : ltS a b = decide (a < b) := by
  cases a with
  | ofNat m =>
    cases b with
    | ofNat n =>
      show Nat.ble (Nat.succ m) n = decide ((m : Int) < n)
      cases h : Nat.ble (Nat.succ m) n
      · have : ¬ m + 1 ≤ n := fun e => by have := Nat.ble_eq_true_of_le e; rw [h] at this; cases this
        symm; simp; omega
      · have := Nat.le_of_ble_eq_true h
        symm; simp; omega
    | negSucc n =>
      show false = decide ((m : Int) < Int.negSucc n)
      symm; simp; omega
  | negSucc m => rfl
theorem leS_eq (a b : Int) : leS a b = decide (a ≤ b) := by
  cases a with
  | ofNat m =>
    cases b with
    | ofNat n =>
      show Nat.ble m n = decide ((m : Int) ≤ n)
      cases h : Nat.ble m n
      · have : ¬ m ≤ n := fun e => by have := Nat.ble_eq_true_of_le e; rw [h] at this; cases this
        symm; simp; omega
      · have := Nat.le_of_ble_eq_true h
        symm; simp; omega
    | negSucc n =>
      show false = decide ((m : Int) ≤ Int.negSucc n)
      symm; simp; omega
  | negSucc m => rfl
theorem eqS_eq (a b : Int) : eqS a b = ibq a b := by cases a <;> cases b <;> rfl
theorem wrapS_eq (kd : Nat) (n : Int) : (wrapS kd).run n = wrapK kd n := by
  cases n with
  | ofNat m =>
    show (@Bool.rec (fun _ => Int) ((kc kd).wrap (.ofNat m)) (.ofNat m) (Nat.ble m (hiN kd))) = wrapK kd (.ofNat m)
    rw [brec]; rfl
  | negSucc m => rfl
theorem iop_eq {op : BinOp} (h : isShift op = false) (kd : Nat) (a b : Int) (k : KS) (hp : H) (n : Nat) : (iop op).run kd a b k hp n = intOp op kd a b (fun v => k v hp n) := by
  cases op <;> first | rfl | (cases h; done) | (simp only [iop, intOp, wrapS_eq, addS_eq, subS_eq, ltS_eq, leS_eq, eqS_eq, brec]; done) | skip
  show k (.bool (@Bool.rec (fun _ => Bool) true false (eqS a b))) hp n = k (.bool (!(ibq a b))) hp n
  rw [eqS_eq]; cases ibq a b <;> rfl
/-! ### Memory -/
def obind {α β : Type} (o : Option α) (k : α → Option β) : Option β := match o with | some a => k a | none => none
theorem nthS_eq (k : CV → Res) : ∀ (l : List CV) (i : Nat), nthS l i k = obind (nthC l i) k
  | [], i => by cases i <;> rfl
  | c :: l, 0 => rfl
  | c :: l, i + 1 => nthS_eq k l i
theorem rdS_eq (hp : H) (b o : Nat) (k : CV → Res) : rdS (hget hp b) o k = obind (rd1 hp b o) k := by
  unfold rd1
  cases hget hp b <;> first | rfl | exact nthS_eq k _ o | skip
  rename_i l n
  show (@Bool.rec (fun _ => Res) none (k (.int 4 (.ofNat (bnth n o)))) (Nat.ble (Nat.succ o) l)) = _
  rw [brec, blt_ble]
  show (bif Nat.blt o l then k (.int 4 (.ofNat (bnth n o))) else none) = obind (bif Nat.blt o l then some (.int 4 (.ofNat (bnth n o))) else none) k
  cases Nat.blt o l <;> rfl
theorem putS_eq (v : CV) : ∀ (l : List CV) (o : Nat) (k : List CV → Res), putS v l o k = obind (putC [v] o l) k
  | [], 0, k => rfl
  | [], o + 1, k => rfl
  | c :: l, 0, k => by
    show k (v :: l) = obind (putC0 [v] (c :: l)) k
    simp only [putC0, obind]
  | c :: l, o + 1, k => by
    show putS v l o (fun r => k (c :: r)) = obind (putC [v] (o + 1) (c :: l)) k
    rw [putS_eq v l o]
    simp only [putC]
    cases putC [v] o l <;> rfl
theorem dropS_eq : ∀ (l : List CV) (o : Nat), dropS l o = dropC o l
  | [], 0 => rfl
  | [], o + 1 => rfl
  | c :: l, 0 => rfl
  | c :: l, o + 1 => dropS_eq l o
theorem takeS_eq : ∀ (l : List CV) (n : Nat) (k : List CV → Res), takeS l n k = obind (takeC n l) k
  | [], 0, k => rfl
  | [], n + 1, k => rfl
  | c :: l, 0, k => rfl
  | c :: l, n + 1, k => by
    show takeS l n (fun r => k (c :: r)) = obind (takeC (n + 1) (c :: l)) k
    rw [takeS_eq l n]
    simp only [takeC]
    cases takeC n l <;> rfl
theorem onCells_eq (c : Ck) (q : List CV → Res) (e : Res) : onCells c q e = (match c with | .cells cs => q cs | _ => e) := by cases c <;> rfl
theorem newS_eq (hp : H) (n : Nat) (c : Ck) (v : Nat → CV) (k : KS) : newS hp n c (fun i hp n => k (v i) hp n) = newCk hp n c v k := by
  unfold newS newCk
  rw [brec, hsetS_eq, blt_ble]
  rfl
theorem afterS_eq (mg : Bool) (n : Nat) (r : Res) (k : KS) : afterS mg n r k = after mg n r k := by
  unfold after
  cases r with
  | none => rfl
  | some l =>
    cases l with
    | nil => rfl
    | cons o os =>
      cases os with
      | nil => rfl
      | cons p os => rfl
theorem isInt_eq (x : CV) (q : Nat → Int → Res) (e : Res) : isInt x q e = (match x with | .int k n => q k n | _ => e) := by cases x <;> rfl
theorem isBool_eq (x : CV) (q : Bool → Res) (e : Res) : isBool x q e = (match x with | .bool b => q b | _ => e) := by cases x <;> rfl
theorem isPtr_eq (x : CV) (q : Nat → Nat → Res) (e : Res) : isPtr x q e = (match x with | .ptr b o => q b o | _ => e) := by cases x <;> rfl
theorem isSlice_eq (x : CV) (q : Nat → Nat → Nat → Nat → Nat → Bool → Res) (e : Res) : isSlice x q e = (match x with | .slice b o s l k ex => q b o s l k ex | _ => e) := by cases x <;> rfl
theorem isTup_eq (x : CV) (q : List CV → Res) (e : Res) : isTup x q e = (match x with | .tup l => q l | _ => e) := by cases x <;> rfl
end Go.Cx
