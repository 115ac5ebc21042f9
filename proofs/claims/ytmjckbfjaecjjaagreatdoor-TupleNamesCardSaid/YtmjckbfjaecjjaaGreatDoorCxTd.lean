/- The staged run answers as the plain one: regions that draw their order; frames entered and left. -/
import Derived.Test.YtmjckbfjaecjjaaGreatDoorCxTc
set_option linter.unusedVariables false
set_option linter.unusedSimpArgs false
set_option linter.unnecessarySimpa false
namespace Go.Cx
section
variable {P : Program} {ctrs : List (Nat × Option Cn)} {bd rd : Rn}
theorem lev_quiet {o : Op} {fr : F} {hp : H} {n : Nat} {k : KS} (h : quietOp P o = true) : lev P ctrs bd rd o fr hp n k = qev P fr hp o (fun v => k v hp n) := by
  cases o <;> first | rfl | (cases h; done) | skip
  case convert s d x =>
    show lConv P fr hp n s d x k = qConv P fr hp s d x (fun v => k v hp n)
    unfold quietOp at h
    unfold lConv
    split
    · rename_i e l m hd _; simp only [hd] at h; cases h
    · rename_i e b o s l kk ex hd _; simp only [hd] at h; cases h
    · rfl
  case call c =>
    show lCall P ctrs bd rd c fr hp n k = qCall P fr hp c (fun v => k v hp n)
    unfold quietOp at h
    unfold lCall qCall
    cases hc : c.callee with
    | builtin b =>
      simp only
      simp only [hc] at h
      cases b <;> first | (cases h; done) | rfl
    | _ => simp only [hc] at h; cases h
theorem guardOf_none (ops : List Oper) (fr : F) : guardOf ops fr none = .go := rfl
theorem sLevA_eq {ops : List Oper} {j : Nat} {op : Op} {n0 : Nat} {rs : List (Nat × Nat)} {fr : F} {hp : H} {n : Nat} {k : KS} (h : NJ' fr) : sLevA P ctrs ops j op bd rd n0 rs fr hp n k = levA P ctrs bd rd ops n0 j rs op fr hp n k := by
  unfold sLevA levA
  cases allocLike op
  · simp only [cond_false]; cases assoc rs j <;> simp only [sOp_eq h.1]
  · simp only [cond_true, sOp_eq h.1]
noncomputable def loudS (ops : Array Oper) (ih : Nat → DR) (m : Nat) (i0 : Nat) (rest : List Nat) : DR :=
  ⟨fun bd rd n0 rs recs fr hp n k => (match (bif twoCalls ops.toList 0 (i0 :: rest) then giveR ops.toList (i0 :: rest) rs n else (rs, n)) with
        | (rs, m') => bif (bif Nat.ble (idN m') (limN m') then Nat.beq (limN m') (limN n) else false) then eachI (fun j => match nthL ops.toList j with
          | some o => (match guardOf ops.toList fr o.guard with
            | .go => sLevA P ctrs ops.toList j o.op bd rd n0 rs fr hp m' fun v hp n =>
                (match recs.filter fun r => !(waits o r.i) with
                | recs => bif recs.all (recOk P hp) then (ih (Nat.lor m (Nat.pow 2 j))).run bd rd n0 rs recs ((sPut o.dst).run v fr) hp n k else none)
            | _ => none)
          | none => none) (i0 :: rest) else none)⟩
noncomputable def nextS (ops : Array Oper) (ih : Nat → DR) (m : Nat) (i : Nat) (next : DR) : DR :=
  match nthL ops.toList i with
        | none => next
        | some o => (match o.guard with
          | none => (match quietOp P o.op with
            | true => (match freeM ops m i with
              | true => ⟨fun bd rd n0 rs recs fr hp n k => (sOp P ctrs o.op).run bd rd fr hp n (fun v hp n => (ih (Nat.lor m (Nat.pow 2 i))).run bd rd n0 rs (@Bool.rec (fun _ => List Rec) (⟨i, o, fr, v⟩ :: recs) recs (pureOp o.op)) ((sPut o.dst).run v fr) hp n k)⟩
              | false => ⟨fun _ _ _ _ _ _ _ _ _ => none⟩)
            | false => next)
          | some g => ⟨fun bd rd n0 rs recs fr hp n k => match guardOf ops.toList fr (some g) with
            | .skip => bif freeM ops m i then (ih (Nat.lor m (Nat.pow 2 i))).run bd rd n0 rs recs ((sPut o.dst).run (.tup []) fr) hp n k else none
            | .go => bif quietOp P o.op then (bif freeM ops m i then (sOp P ctrs o.op).run bd rd fr hp n (fun v hp n => (ih (Nat.lor m (Nat.pow 2 i))).run bd rd n0 rs (@Bool.rec (fun _ => List Rec) (⟨i, o, fr, v⟩ :: recs) recs (pureOp o.op)) ((sPut o.dst).run v fr) hp n k) else none) else next.run bd rd n0 rs recs fr hp n k
            | .bad => bif quietOp P o.op then none else next.run bd rd n0 rs recs fr hp n k⟩)
theorem sDraw_succ (ops : Array Oper) (fuel m : Nat) : sDraw P ctrs ops (fuel + 1) m = (match readyM m (depsM ops.toList) 0 with
    | [] => ⟨fun _ _ _ _ _ fr hp n k => k fr hp n⟩
    | i0 :: rest => @List.rec Nat (fun _ => DR) (loudS (P := P) (ctrs := ctrs) ops (sDraw P ctrs ops fuel) m i0 rest) (fun i _ next => nextS (P := P) (ctrs := ctrs) ops (sDraw P ctrs ops fuel) m i next) (i0 :: rest)) := rfl
theorem drawS_eq {ops : Array Oper} {n0 : Nat} {k : F → H → Nat → Res} : ∀ (fuel m : Nat) (listed : Array Bool) (rs : List (Nat × Nat)) (recs : List Rec) (fr : F) (hp : H) (n : Nat), Msk ops.size m listed → NJ' fr →
    (sDraw P ctrs ops fuel m).run bd rd n0 rs recs fr hp n k = drawR P ctrs bd rd ops n0 fuel listed rs recs fr hp n k := by
  intro fuel
  induction fuel with
  | zero => intros; rfl
  | succ fuel ih =>
    intro m listed rs recs fr hp n hM hN
    rw [sDraw_succ, readyM_eq hM]
    unfold drawR
    have hsz : ∀ {i : Nat} {o : Oper}, nthL ops.toList i = some o → i < ops.size := fun {i o} h => by
      rw [nthL_eq, Array.getElem?_toList] at h; exact (Array.getElem?_eq_some_iff.1 h).1
    cases hr : Region.ready .any ops listed with
    | nil => rfl
    | cons i0 rest =>
      simp only
      -- the loud ones
      have hloud : (loudS (P := P) (ctrs := ctrs) ops (sDraw P ctrs ops fuel) m i0 rest).run bd rd n0 rs recs fr hp n k =
          (match (bif twoCalls ops.toList 0 (i0 :: rest) then giveR ops.toList (i0 :: rest) rs n else (rs, n)) with
        | (rs, m) => bif (bif Nat.ble (idN m) (limN m) then Nat.beq (limN m) (limN n) else false) then eachI (fun j => match nthL ops.toList j with
          | some o => (match guardOf ops.toList fr o.guard with
            | .go => levA P ctrs bd rd ops.toList n0 j rs o.op fr hp m fun v hp n =>
                (match recs.filter fun r => !(waits o r.i) with
                | recs => bif recs.all (recOk P hp) then drawR P ctrs bd rd ops n0 fuel (listed.setIfInBounds j true) rs recs (putD fr o.dst v) hp n k else none)
            | _ => none)
          | none => none) (i0 :: rest) else none) := by
        unfold loudS
        simp only
        generalize (bif twoCalls ops.toList 0 (i0 :: rest) then giveR ops.toList (i0 :: rest) rs n else (rs, n)) = g
        obtain ⟨rs', m'⟩ := g
        simp only
        congr 2
        funext j
        cases hj : nthL ops.toList j with
        | none => rfl
        | some o =>
          simp only
          cases guardOf ops.toList fr o.guard <;> try rfl
          simp only [sLevA_eq hN]
          congr 1
          funext v hp n
          simp only [sPut_eq]
          rw [ih _ _ _ _ _ _ _ (hM.set (hsz hj)) (hN.put _ _)]
      have key : ∀ l : List Nat, (∀ i ∈ l, ∃ o, nthL ops.toList i = some o) →
          (@List.rec Nat (fun _ => DR) (loudS (P := P) (ctrs := ctrs) ops (sDraw P ctrs ops fuel) m i0 rest) (fun i _ next => nextS (P := P) (ctrs := ctrs) ops (sDraw P ctrs ops fuel) m i next) l).run bd rd n0 rs recs fr hp n k =
          (match firstQuiet P fr ops.toList l with
          | some (i, o) => bif Region.free .any ops listed i then
              (match guardOf ops.toList fr o.guard with
              | .go => qev P fr hp o.op (fun v => drawR P ctrs bd rd ops n0 fuel (listed.setIfInBounds i true) rs (bif pureOp o.op then recs else ⟨i, o, fr, v⟩ :: recs) (putD fr o.dst v) hp n k)
              | .skip => drawR P ctrs bd rd ops n0 fuel (listed.setIfInBounds i true) rs recs (putD fr o.dst (.tup [])) hp n k
              | .bad => none)
            else none
          | none => (loudS (P := P) (ctrs := ctrs) ops (sDraw P ctrs ops fuel) m i0 rest).run bd rd n0 rs recs fr hp n k) := by
        intro l
        induction l with
        | nil => intro _; rfl
        | cons i l ihl =>
          intro hl
          obtain ⟨o, ho⟩ := hl i List.mem_cons_self
          have ihl := ihl fun j hj => hl j (List.mem_cons_of_mem _ hj)
          have go : quietOp P o.op = true → (sOp P ctrs o.op).run bd rd fr hp n (fun v hp n => (sDraw P ctrs ops fuel (Nat.lor m (Nat.pow 2 i))).run bd rd n0 rs (@Bool.rec (fun _ => List Rec) (⟨i, o, fr, v⟩ :: recs) recs (pureOp o.op)) ((sPut o.dst).run v fr) hp n k) =
              qev P fr hp o.op (fun v => drawR P ctrs bd rd ops n0 fuel (listed.setIfInBounds i true) rs (bif pureOp o.op then recs else ⟨i, o, fr, v⟩ :: recs) (putD fr o.dst v) hp n k) := by
            intro hq
            rw [sOp_eq hN.1, lev_quiet hq]
            congr 1
            funext v
            rw [sPut_eq, brec, ih _ _ _ _ _ _ _ (hM.set (hsz ho)) (hN.put _ _)]
          have e : (@List.rec Nat (fun _ => DR) (loudS (P := P) (ctrs := ctrs) ops (sDraw P ctrs ops fuel) m i0 rest) (fun i _ next => nextS (P := P) (ctrs := ctrs) ops (sDraw P ctrs ops fuel) m i next) (i :: l)) =
              nextS (P := P) (ctrs := ctrs) ops (sDraw P ctrs ops fuel) m i (@List.rec Nat (fun _ => DR) (loudS (P := P) (ctrs := ctrs) ops (sDraw P ctrs ops fuel) m i0 rest) (fun i _ next => nextS (P := P) (ctrs := ctrs) ops (sDraw P ctrs ops fuel) m i next) l) := rfl
          rw [e]
          unfold nextS firstQuiet quietAt
          simp only [ho]
          cases hg : o.guard with
          | none =>
            simp only [guardOf_none]
            cases hq : quietOp P o.op
            · simp only [cond_false]; exact ihl
            · simp only [cond_true, hg, guardOf_none, ← freeM_eq hM ho]
              cases freeM ops m i
              · rfl
              · exact go hq
          | some g =>
            simp only
            cases hgd : guardOf ops.toList fr (some g)
            · simp only
              cases hq : quietOp P o.op
              · simp only [cond_false]; exact ihl
              · simp only [cond_true, hg, hgd, ← freeM_eq hM ho]
                cases freeM ops m i
                · rfl
                · exact go hq
            · simp only [cond_true, hg, hgd, ← freeM_eq hM ho]
              cases freeM ops m i
              · rfl
              · simp only [cond_true]
                rw [sPut_eq, ih _ _ _ _ _ _ _ (hM.set (hsz ho)) (hN.put _ _)]
            · simp only
              cases hq : quietOp P o.op
              · simp only [cond_false]; exact ihl
              · simp only [cond_true, hg, hgd]
                cases Region.free .any ops listed i <;> rfl
      rw [key (i0 :: rest) (fun i hi => by
        have : i ∈ Region.ready .any ops listed := by rw [hr]; exact hi
        obtain ⟨_, o, ho, _⟩ := mem_ready.1 this
        exact ⟨o, by rw [nthL_eq, Array.getElem?_toList]; exact ho⟩), hloud]
      cases firstQuiet P fr ops.toList (i0 :: rest) with
      | none => rfl
      | some p =>
        obtain ⟨i, o⟩ := p
        simp only
        cases Region.free .any ops listed i
        · rfl
        · simp only [cond_true]
          cases guardOf ops.toList fr o.guard <;> rfl
/-! ### Frames entered and left -/
theorem argS_eq : ∀ (args : List CV) (i : Nat) (fr : F), argS args i fr = argF args i fr
  | [], i, fr => rfl
  | c :: l, i, fr => by
    show argS l (i + 1) ((sSet i).run c fr) = argF l (i + 1) (fset fr i c)
    rw [sSet_eq, argS_eq l]
theorem lenS_eq : ∀ (args : List CV), lenS args = args.length
  | [] => rfl
  | c :: l => by show Nat.succ (lenS l) = _; rw [lenS_eq l]; rfl
theorem noJunk_eq (x : CV) (q : Res) : (@Bool.rec (fun _ => Res) none q (noJunk x)) = (match x with | .junk => none | _ => q) := by cases x <;> rfl
theorem sRes_eq {fr : F} {hp : H} (h : NJ fr) : ∀ (l : List ResultVar) (k : List CV → Res), (sRes P l).run fr hp k = obind (resV P fr hp l) k
  | [], k => rfl
  | .tmp t :: l, k => by
    show (@Bool.rec (fun _ => Res) none ((sRes P l).run fr hp (fun vs => k ((sTmp t).run fr :: vs))) (noJunk ((sTmp t).run fr))) = _
    rw [sTmp_eq h, noJunk_eq, sRes_eq h l]
    simp only [resV]
    cases fg fr t <;> first | rfl | (cases resV P fr hp l <;> rfl)
  | .cell a t :: l, k => by
    have e : sRes P (.cell a t :: l) = (match tyA P t with
      | some (false, _) => ⟨fun fr hp k => isPtr ((sTmp a).run fr) (fun b o => rdS (hgetS hp b) o (fun c => (sRes P l).run fr hp (fun vs => k (c :: vs)))) none⟩
      | some (true, m) => ⟨fun fr hp k => isPtr ((sTmp a).run fr) (fun b o => match rdN hp b o m with | some cs => (sRes P l).run fr hp (fun vs => k (.agg cs :: vs)) | none => none) none⟩
      | none => ⟨fun _ _ _ => none⟩ : CV1) := rfl
    rw [e]
    simp only [resV]
    cases hA : tyA P t with
    | none => simp only; cases fg fr a <;> rfl
    | some p =>
      obtain ⟨ag, m⟩ := p
      cases ag
      · simp only [isPtr_eq, sTmp_eq h, hgetS_eq, rdS_eq, sRes_eq h l]
        cases fg fr a <;> try rfl
        rename_i b o
        simp only
        cases rd1 hp b o <;> try rfl
        simp only [obind]
        cases resV P fr hp l <;> rfl
      · simp only [isPtr_eq, sTmp_eq h, sRes_eq h l]
        cases fg fr a <;> try rfl
        rename_i b o
        simp only
        cases rdN hp b o m <;> try rfl
        simp only [obind]
        cases resV P fr hp l <;> rfl
theorem outS_eq (vs : List CV) (hp : H) (n : Nat) : outS vs hp n = (match vs with | [v] => some [⟨v, hp, n⟩] | vs => some [⟨.tup vs, hp, n⟩]) := by
  match vs with
  | [] => rfl
  | [v] => rfl
  | v :: w :: r => rfl
theorem resOut_eq {fr : F} {hp : H} {n : Nat} (h : NJ fr) (l : List ResultVar) : (sRes P l).run fr hp (fun vs => outS vs hp n) = (match resV P fr hp l with | some [v] => some [⟨v, hp, n⟩] | some vs => some [⟨.tup vs, hp, n⟩] | none => none : Res) := by
  rw [sRes_eq h]
  cases resV P fr hp l with
  | none => rfl
  | some vs =>
    show outS vs hp n = _
    rw [outS_eq]
    match vs with
    | [] => rfl
    | [v] => rfl
    | v :: w :: r => rfl
theorem sFin_eq {dctrs : List (Nat × Cn)} {db : Rn} {fn : Func} {fr : F} {hp : H} {n : Nat} (h : NJ fr) : (sFin P dctrs fn).run db fr hp n = fin P dctrs db fn fr hp n := by
  unfold sFin fin
  simp only [isTup_eq, resOut_eq h]
  cases fget fr dfSlot <;> first | rfl | (simp only [runDs]; done)
theorem sFinD_eq {db : Rn} {fn : Func} {fr : F} {hp : H} {n : Nat} (h : NJ fr) : (sFinD P fn).run db fr hp n = finD P fn fr hp n := by
  unfold sFinD finD
  simp only [isTup_eq, resOut_eq h]
  cases fget fr dfSlot <;> rfl
end
end Go.Cx
