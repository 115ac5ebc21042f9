/- The staged run answers as the plain one: operations. -/
import Derived.Test.YtmjckbfjaecjjaaGreatDoorCxT
set_option linter.unusedVariables false
set_option linter.unusedSimpArgs false
set_option linter.unnecessarySimpa false
namespace Go.Cx
section
variable {P : Program} {ctrs : List (Nat × Option Cn)} {fr : F} {bd rd : Rn} {hp : H} {n : Nat} {k : KS}
theorem sLoad_eq (h : NJ fr) (t : Nat) (a : Operand) : (sLoad P t a).run bd rd fr hp n k = qLoad P fr hp t a (fun v => k v hp n) := by
  unfold sLoad qLoad
  generalize hA : tyA P t = ty
  match ty with
  | none => simp only; cases lk fr a <;> rfl
  | some (false, m) =>
    simp only [isPtr_eq, sOpd_eq h, hgetS_eq, rdS_eq]
    cases lk fr a <;> try rfl
    rename_i b o
    show obind (rd1 hp b o) (fun c => k c hp n) = (match rd1 hp b o with | some c => k c hp n | none => none)
    cases rd1 hp b o <;> rfl
  | some (true, m) =>
    simp only [isPtr_eq, sOpd_eq h, hgetS_eq, onCells_eq, takeS_eq, dropS_eq]
    cases he : lk fr a <;> try rfl
    rename_i b o
    simp only
    cases hc : hget hp b <;> simp only [rdN, hc, qLoad, hA, he]
    rename_i cs
    show obind (takeC m (dropC o cs)) (fun r => k (.agg r) hp n) = (match takeC m (dropC o cs) with | some r => k (.agg r) hp n | none => none)
    cases takeC m (dropC o cs) <;> rfl
theorem plainB_eq {x : CV} (h : plainB x = true) : cellOk x = true ∧ cellsOf x = [x] ∧ x ≠ .junk := by
  cases x <;> first | (cases h; done) | exact ⟨rfl, rfl, by simp⟩
theorem sStore_eq (h : NJ fr) (t : Nat) (a v : Operand) : (sStore P t a v).run bd rd fr hp n k = lStore P fr hp n t a v k := by
  unfold sStore
  split
  · rename_i hsz
    simp only [isPtr_eq, sOpd_eq h, hgetS_eq, onCells_eq, putS_eq, hsetS_eq, brec]
    cases he : lk fr a with
    | ptr b o =>
      simp only
      cases hp1 : plainB (lk fr v)
      · rfl
      · simp only [cond_true]
        obtain ⟨h1, h2, h3⟩ := plainB_eq hp1
        cases hc : hget hp b <;> try rfl
        rename_i cs
        simp only [lStore, he, hsz]
        rw [h2]
        simp only [wrN, hc, allCell, h1]
        show obind (putC [lk fr v] o cs) _ = (match (match putC [lk fr v] o cs with | some new => some (hset hp b (.cells new)) | none => none) with | some hp' => k (.tup []) hp' n | none => none)
        cases putC [lk fr v] o cs <;> rfl
    | _ => simp only [lStore, he]
  · rfl
theorem sBin_eq (h : NJ fr) (op : BinOp) (t : Nat) (x y : Operand) : (sBin P op t x y).run bd rd fr hp n k = qBin P fr hp op t x y (fun v => k v hp n) := by
  unfold sBin
  cases hs : isShift op
  · simp only [isInt_eq, sOpd_eq h, brec]
    cases hx : lk fr x with
    | int kd a =>
      cases hy : lk fr y with
      | int kd' b =>
        simp only [qBin, hx, hy]
        cases op <;> first | (cases hs; done) | skip
        all_goals
          simp only
          cases Nat.beq kd kd'
          · rfl
          · simp only [cond_true]; exact iop_eq hs kd a b k hp n
      | _ => rfl
    | _ => rfl
  · rfl
theorem sFieldA_eq (h : NJ fr) (s f : Nat) (x : Operand) : (sFieldA P s x f).run bd rd fr hp n k = qFieldA P fr s x f (fun v => k v hp n) := by
  unfold sFieldA qFieldA
  cases hx : lk fr x with
  | ptr b o =>
    simp only
    split
    · rename_i fs hd
      simp only [hd]
      split
      · rename_i fd hfd
        simp only [hfd]
        split
        · rename_i m hm
          simp only [isPtr_eq, sOpd_eq h, hx, hm]
          rfl
        · rename_i hm
          split
          · rename_i m e; exact absurd e (hm _)
          · rfl
      · rename_i hfd
        simp only [hfd]
    · rename_i hd
      split
      · rename_i fs e; exact absurd e (hd _)
      · rfl
  | _ =>
    simp only
    split
    · split
      · split
        · simp only [isPtr_eq, sOpd_eq h, hx]
        · rfl
      · rfl
    · rfl
theorem sIndexA_eq (h : NJ fr) (t : Nat) (x ix : Operand) : (sIndexA P t x ix).run bd rd fr hp n k = qIndexA P fr t x ix (fun v => k v hp n) := by
  unfold sIndexA
  split
  · rename_i e hd
    split
    · rename_i m hm
      simp only [isInt_eq, isSlice_eq, sOpd_eq h, brec, blt_ble]
      unfold qIndexA
      cases hi : lk fr ix <;> try rfl
      rename_i kd i
      cases i
      · simp only
        cases hx : lk fr x <;> simp only [hd, hm] <;> try rfl
      · rfl
    · rename_i hm
      unfold qIndexA
      cases hi : lk fr ix <;> try rfl
      rename_i kd i
      cases i
      · simp only
        cases hx : lk fr x <;> simp only [hd] <;> try rfl
        rename_i b o s l kk ex
        cases Nat.blt _ l <;> try rfl
      · rfl
  · rfl
theorem sExtract_eq (h : NJ fr) (t : Operand) (ix : Nat) : (sExtract t ix).run bd rd fr hp n k = qExtract fr t ix (fun v => k v hp n) := by
  unfold sExtract qExtract
  simp only [isTup_eq, sOpd_eq h, nthS_eq]
  cases lk fr t <;> try rfl
  rename_i vs
  show obind (nthC vs ix) (fun v => k v hp n) = (match nthC vs ix with | some v => k v hp n | none => none)
  cases nthC vs ix <;> rfl
theorem sPick_eq (h : NJ fr) (c a b : Operand) : (sPick c a b).run bd rd fr hp n k = qPick fr c a b (fun v => k v hp n) := by
  unfold sPick qPick
  simp only [isBool_eq, sOpd_eq h, brec]
  cases lk fr c <;> try rfl
  rename_i q; cases q <;> rfl
theorem sAlloc_eq (t : Nat) : (sAlloc P t).run bd rd fr hp n k = lAlloc P hp n t k := by
  unfold sAlloc lAlloc newPtr
  split
  · rename_i cs hz
    simp only [hz]
    split
    · rename_i ht; simp only [ht, cond_true]; exact newS_eq hp n _ (fun i => .ptr i 0) k
    · rename_i ht; simp only [ht, cond_false]; exact newS_eq hp n _ (fun i => .ptr i 0) k
  · rename_i hz
    simp only [hz]
theorem sConv_eq (h : NJ fr) (s d : Nat) (x : Operand) : (sConv P s d x).run bd rd fr hp n k = lConv P fr hp n s d x k := by
  unfold sConv
  split
  · rename_i kd ds hd hs
    simp only [isInt_eq, sOpd_eq h, wrapS_eq]
    unfold lConv
    simp only [hd]
    unfold qConv
    simp only [hd, hs]
    cases lk fr x <;> rfl
  · rfl
theorem sCall_eq (h : NJ fr) (c : Call) : (sCall P ctrs c).run bd rd fr hp n k = lCall P ctrs bd rd c fr hp n k := by
  unfold sCall lCall
  split
  · rename_i f hc
    rw [hc]
    simp only
    show _ = callF ctrs bd f (([] ++ lks fr c.args.toList) ++ []) hp n k
    simp only [List.nil_append, List.append_nil]
    unfold callF
    split
    · rename_i c' hc'
      split
      · simp only [hc', sOpds_eq h, afterS_eq]
      · simp only [hc', sOpds_eq h, afterS_eq]
    · rename_i hc'
      simp only [hc', sOpds_eq h, afterS_eq]
  · rename_i f hne hc
    rw [hc]
    simp only [sOpd_eq h, sOpds_eq h]
  · rename_i b hc
    rw [hc]
    simp only
    split
    · rename_i x t ts ha ht
      split
      · rename_i e hd
        simp only [isSlice_eq, sOpd_eq h]
        simp only [lCallB, qCallB, ha, ht]
        unfold qLen
        simp only [hd]
        cases lk fr x <;> rfl
      · rfl
    · rfl
  · rename_i r name hc
    rw [hc]
    simp only [sOpd_eq h, sOpds_eq h]
    cases lk fr r <;> rfl
theorem sOp_eq (h : NJ fr) (o : Op) : (sOp P ctrs o).run bd rd fr hp n k = lev P ctrs bd rd o fr hp n k := by
  cases o <;> first
    | rfl
    | exact sCall_eq h _
    | exact sAlloc_eq _
    | exact sStore_eq h _ _ _
    | exact sConv_eq h _ _ _
    | exact sPick_eq h _ _ _
    | exact sLoad_eq h _ _
    | exact sBin_eq h _ _ _ _
    | exact sFieldA_eq h _ _ _
    | exact sIndexA_eq h _ _ _
    | exact sExtract_eq h _ _
    | (show k ((sOpd _).run fr) hp n = k (lk fr _) hp n; rw [sOpd_eq h])
end
end Go.Cx
