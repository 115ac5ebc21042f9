/- Contracts for strings.Builder (copyCheck, String) and IndexByteString in a run with written-out values. -/
import Derived.Test.YtmjckbfjaecjjaaGreatDoorCxR
import Derived.Test.YtmjckbfjaecjjaaGreatDoorProg
import Derived.Lib.Builder
import Derived.Lib.UnsafeStr
import Derived.Lib.Bytealg
import Derived.Lib.Walk
import Derived.Shelf.RegionOpenPlain
import Derived.WalkKit
import Derived.KernelRfl
set_option linter.unusedVariables false
set_option linter.unusedSimpArgs false
set_option linter.unnecessarySimpa false
namespace Go.Proofs.YtmjckbfjaecjjaaGreatDoor
open Go.Cx
open Go.RowKit

/-! ### IndexByteString -/
def idxN : Nat → Nat → Nat → Int
  | 0, _, _ => -1
  | l + 1, n, c => bif Nat.beq (n % 256) c then 0 else (match idxN l (n / 256) c with | .ofNat m => .ofNat (m + 1) | .negSucc m => .negSucc m)
noncomputable def ibsC : Cn := fun args hp n => match args with
  | [.str l x, .int k (.ofNat c)] => bif Nat.beq k 4 then (bif Nat.blt c 256 then some [⟨.int 3 (idxN l x c), hp, n⟩] else none) else none
  | _ => none
theorem idxN_eq : ∀ (l n c : Nat), c < 256 → idxN l n c = Lib.indexByte (bys l n) (UInt8.ofNat c) ∧ (idxN l n c = -1 ∨ 0 ≤ idxN l n c)
  | 0, _, _, _ => ⟨rfl, .inl rfl⟩
  | l + 1, n, c, hc => by
    obtain ⟨ih, ih2⟩ := idxN_eq l (n / 256) c hc
    have key : (UInt8.ofNat (n % 256) == UInt8.ofNat c) = Nat.beq (n % 256) c := by
      have h1 : (UInt8.ofNat (n % 256)).toNat = n % 256 := u8_nat _ (Nat.mod_lt _ (by decide))
      have h2 : (UInt8.ofNat c).toNat = c := u8_nat _ hc
      cases hq : Nat.beq (n % 256) c
      · have hne : n % 256 ≠ c := fun e => by rw [e] at hq; simp at hq
        rw [beq_eq_false_iff_ne]
        intro e
        exact hne (by rw [← h1, ← h2, e])
      · have := Nat.eq_of_beq_eq_true hq
        rw [this]; simp
    simp only [idxN, bys, Lib.indexByte, key]
    cases hq : Nat.beq (n % 256) c
    · simp only [cond_false, Bool.false_eq_true, if_false]
      rw [← ih]
      cases hr : idxN l (n / 256) c with
      | ofNat m =>
        have : ((Int.ofNat m) == (-1 : Int)) = false := by rw [beq_eq_false_iff_ne]; intro e; cases e
        simp only [this, Bool.false_eq_true, if_false]
        exact ⟨rfl, .inr (Int.natCast_nonneg _)⟩
      | negSucc m =>
        rw [hr] at ih2
        have hm : m = 0 := by
          rcases ih2 with e | e
          · exact Int.negSucc.inj e
          · exact absurd e (by simp)
        subst hm
        exact ⟨rfl, .inl rfl⟩
    · simp only [cond_true, if_true]
      exact ⟨trivial, .inr (Int.le_refl _)⟩
theorem ibs_ok {P : Program} {w0 : World} {f : Nat} {fn : Func} (hf : P.funcs[f]? = some fn) (hname : (fn.name == "runtime.NumGoroutine") = false)
    (hb : fn.body.isNone = true) (hn : Extern.findNext fn = none) (he : Extern.find fn = some Extern.BytealgIndexByte.indexByte) : CallOk P w0 f ibsC := by
  intro args hp n σ w xs l hR hx h
  left
  unfold ibsC at h
  split at h
  · rename_i l' x k c
    obtain ⟨q1, g1⟩ := cbif h
    obtain ⟨q2, g2⟩ := cbif g1
    clear h g1
    have h2 : c < 256 := of_blt q2
    cases g2
    have h1 := Nat.eq_of_beq_eq_true q1
    subst h1
    simp only [VRs, VR] at hx
    obtain ⟨v, ws, rfl, rfl, v2, ws2, rfl, rfl, rfl⟩ := hx
    refine ⟨.int .i64 (idxN l' x c), w, ?_, _, σ, List.mem_singleton.2 rfl, ?_, hR, Ex.refl _ _, Nle.refl _⟩
    · rw [run_callFunc_extern hf hname hb hn he]
      have := run_indexByte_string (P := P) ⟨(bys l' x).toArray⟩ (Int.ofNat c) w
      rw [Lib.firstIdx_eq] at this
      have e : (Int.ofNat c).toNat.toUInt8 = UInt8.ofNat c := rfl
      rw [e] at this
      rw [show [Value.string ⟨(bys l' x).toArray⟩, .int (kc 4) (Int.ofNat c)].toArray = #[.string ⟨(bys l' x).toArray⟩, .int .u8 (Int.ofNat c)] from rfl, this, (idxN_eq l' x c h2).1]
      rfl
    · simp only [VR]; rfl
  · cases h

/-! ### copyCheck -/
noncomputable def chkC : Cn := fun args hp n => match args with
  | [.ptr b 0] => (match hget hp b with
    | .tcells (.nilp :: rest) => bif Nat.beq rest.length 1 then some [⟨.tup [], hset hp b (.tcells (.ptr b 0 :: rest)), n⟩] else none
    | .tcells (.ptr c o :: _) => bif (bif Nat.beq c b then Nat.beq o 0 else false) then some [⟨.tup [], hp, n⟩] else none
    | _ => none)
  | _ => none
theorem sizeBld : (Tryz.prog.info? 50).map (·.size) = some 2 := by kernel_rfl
theorem liesBld : liesAt Tryz.prog Tryz.prog.depth 50 (2 / Tryz.prog.cellsOf 50) 0 50 1 = true := by kernel_rfl
set_option maxHeartbeats 1000000 in
set_option maxRecDepth 100000 in
theorem chk_used (b : Nat) (w : World) (h0 : w.cell? ⟨b, 0, none⟩ = some (.pointer (some ⟨b, 0, none⟩))) :
    Calls Tryz.prog 46 #[.pointer (some ⟨b, 0, none⟩)] w fun e w' => e = .returned (.tuple #[]) ∧ w' = w := by
  obtain ⟨j, hj, _⟩ := Option.map_eq_some_iff.1 sizeBld
  go_enter Tryz.func46, Tryz.ntmps46
  go_wp2
  rw [Lib.run_neq_ptr_same w _ Tryz.underlying48 hj]
  go_wp2
  go_end0
  exact ⟨rfl, rfl⟩
set_option maxHeartbeats 1000000 in
set_option maxRecDepth 100000 in
theorem chk_fresh (b : Nat) (w : World) (h0 : w.cell? ⟨b, 0, none⟩ = some (.pointer none)) (hsh : w.shape? b = some (50, 2)) (hfz : w.frozen? ⟨b, 0, none⟩ = false) :
    Calls Tryz.prog 46 #[.pointer (some ⟨b, 0, none⟩)] w fun e w' => e = .returned (.tuple #[]) ∧ w' = w.setCell ⟨b, 0, none⟩ (.pointer (some ⟨b, 0, none⟩)) := by
  obtain ⟨j, hj, hjs⟩ := Option.map_eq_some_iff.1 sizeBld
  go_enter Tryz.func46, Tryz.ntmps46
  go_wp2
  rw [Lib.run_to_unsafe w ⟨b, 0, none⟩ Tryz.underlying48 Tryz.underlying110 hj (by rw [hjs]; decide) hsh (Nat.zero_lt_succ 1)]
  simp only [Result.andThen]
  rw [Oper.upon_value]
  go_wp2
  rw [run_callFunc_extern Tryz.func64 (by kernel_rfl) (by kernel_rfl) (by kernel_rfl) (e := Extern.AbiNoEscape.same) (by kernel_rfl)]
  rw [Lib.run_noEscape]
  simp only [Result.andThen]
  rw [Oper.upon_value]
  go_wp2
  rw [Lib.run_from_unsafe w ⟨b, 0, none⟩ Tryz.underlying110 Tryz.underlying48 hj hsh liesBld]
  simp only [Result.andThen]
  rw [Oper.upon_value]
  go_wp2
  go_end0
  exact ⟨rfl, rfl⟩
theorem setCell_other (w : World) (a : Addr) (v : Value) (k : Nat) (h : k ≠ a.block) : (w.setCell a v).heap[k]? = w.heap[k]? := by
  unfold World.setCell
  simp only [Array.getElem?_modify]
  rw [if_neg (fun e => h e.symm)]
theorem setCell_row {w : World} {b ty : Nat} {arr : Array Value} {z : Nat × Nat} (v : Value) (h : w.heap[b]? = some (.cells arr ty z)) :
    (w.setCell ⟨b, 0, none⟩ v).heap[b]? = some (.cells (arr.setIfInBounds 0 v) ty z) := by
  have := setCell_eq_setRow w b 0 arr ty z v h
  rw [this]
  exact setRow_heap w b arr _ ty z h
theorem chk_call (w0 : World) : CallOk Tryz.prog w0 46 chkC := by
  intro args hp n σ w xs l hR hx h
  refine .inr ⟨run_callFunc_enter Tryz.func46 rfl (by kernel_rfl), ?_⟩
  unfold chkC at h
  split at h
  · rename_i b
    simp only [VRs, VR] at hx
    obtain ⟨v, ws, rfl, ⟨p, t, hs, rfl⟩, rfl⟩ := hx
    split at h
    · rename_i rest hc
      obtain ⟨q1, g1⟩ := cbif h
      clear h
      cases g1
      have q1 := Nat.eq_of_beq_eq_true q1
      obtain ⟨vs, h1, h2, ⟨arr, z, hT⟩, hlen⟩ := hR.at hs hc (by simp)
      simp only [VRs, VR] at h1
      obtain ⟨v0, ws, rfl, rfl, h3⟩ := h1
      have h2' := h2
      obtain ⟨arr', ty, lo, hi, e1, e2, ⟨sp, e3⟩, e4⟩ := h2'
      rw [hT] at e1; cases e1
      have hc0 := h2.cell (i := 0) rfl
      have hsz : arr.size = 2 := by rw [e2, ← hlen]; simp [q1]
      have hsh : w.shape? p = some (50, 2) := by simp only [World.shape?, hT, hsz]; rfl
      refine (callsIn_wide (n := 0)).2 (Calls.mono (chk_fresh p w hc0.1 hsh hc0.2.1) ?_)
      rintro e w' ⟨rfl, rfl⟩
      refine ⟨_, rfl, _, σ, List.mem_singleton.2 rfl, by simp only [VR]; exact ⟨[], rfl, rfl⟩, ?_, Ex.refl _ _, Nle.refl _⟩
      have hrow := setCell_row (.pointer (some ⟨p, 0, none⟩)) hT
      refine hR.upd hs (by rw [hc]; simp) (by unfold World.setCell; simp) (fun k hk => setCell_other _ _ _ k hk) rfl rfl rfl ⟨.pointer (some ⟨p, 0, none⟩) :: ws, ?_, ⟨_, _, _, _, hrow, by simpa using e2, ⟨sp, ?_⟩, e4⟩, ⟨_, _, hrow⟩, hlen⟩
      · simp only [VRs, VR]; exact ⟨_, _, rfl, ⟨p, t, hs, rfl⟩, h3⟩
      · rw [Array.toList_setIfInBounds, e3]; rfl
    · rename_i c o rest hc
      obtain ⟨q1, g1⟩ := cbif h
      clear h
      cases g1
      obtain ⟨q1, q2⟩ := bif_t q1
      have q1 := nbq q1; have q2 := nbq q2
      subst q1; subst q2
      obtain ⟨vs, h1, h2, _, _⟩ := hR.at hs hc (by simp)
      simp only [VRs, VR] at h1
      obtain ⟨v0, ws, rfl, ⟨p', t', hs', rfl⟩, h3⟩ := h1
      rw [hs] at hs'; cases hs'
      have hc0 := h2.cell (i := 0) rfl
      refine (callsIn_wide (n := 0)).2 (Calls.mono (chk_used p w hc0.1) ?_)
      rintro e w' ⟨rfl, rfl⟩
      exact ⟨_, rfl, _, σ, List.mem_singleton.2 rfl, by simp only [VR]; exact ⟨[], rfl, rfl⟩, hR, Ex.refl _ _, Nle.refl _⟩
    · cases h
  · cases h

/-! ### String -/
noncomputable def strC : Cn := fun args hp n => match args with
  | [.ptr b 0] => (match hget hp b with
    | .tcells [_, .slice j 0 1 (l + 1) (k + 1) ex] => (match hget hp j with
      | .bytes m x => bif (bif Nat.ble (l + 1) m then Nat.ble (l + 1) 140737488355328 else false) then some [⟨.str (l + 1) x, hset hp j .no, n⟩] else none
      | _ => none)
    | _ => none)
  | _ => none
set_option maxHeartbeats 2000000 in
set_option maxRecDepth 100000 in
theorem str_row (b g n cap : Nat) (ty : Nat) (z : Nat × Nat) (cur : Array Value) (l : List UInt8) (w : World) (h0 : l ≠ []) (hc0 : cap ≠ 0) (hl : l.length ≤ cur.size) (h63 : l.length ≤ 9223372036854775807)
    (c1 : w.cell? ⟨b, 1, none⟩ = some (.slice (some ⟨g, 0, none⟩) l.length cap)) (hg : w.heap[g]? = some (.cells cur 5 z))
    (hcell : ∀ j x, l[j]? = some x → w.cell? ((⟨g, 0, none⟩ : Addr).add j) = some (.int .u8 x.toNat)) :
    Calls Tryz.prog 18 #[.pointer (some ⟨b, 0, none⟩)] w fun e w' => e = .returned (.string ⟨l.toArray⟩) ∧ w'.heap = (w.freeze ⟨g, 0, none⟩ l.length).heap ∧ w'.os = w.os ∧ w'.tape = w.tape ∧ w'.output = w.output := by
  have c1' : w.drew.cell? ⟨b, 1, none⟩ = some (.slice (some ⟨g, 0, none⟩) l.length cap) := c1
  have hSD : (Builtin.unsafeSliceData_ #[24] 75 #[.slice (some ⟨g, 0, none⟩) l.length cap]).run Tryz.prog w.drew = .ok (.pointer (some ⟨g, 0, none⟩)) w.drew :=
    Lib.run_unsafeSliceData_row _ _ _ _ _ _ hc0
  have hUS : (Builtin.unsafeString_ #[75, 3] 9 #[.pointer (some ⟨g, 0, none⟩), .int .i64 l.length]).run Tryz.prog w.drew = .ok (.string ⟨l.toArray⟩) (w.drew.freeze ⟨g, 0, none⟩ l.length) := by
    refine Lib.run_unsafeString_row w.drew 75 3 9 5 Tryz.underlying75 (by kernel_rfl) g cur.size (by have hg' : w.drew.heap[g]? = some (.cells cur 5 z) := hg; simp [World.shape?, hg']) l h0 hl h63 ?_
    exact hcell
  have mixed : Tryz.prog.follows .mixedOrders = true := by kernel_rfl
  go_enter Tryz.func18, Tryz.ntmps18
  go_wp2
  go_region_o
  all_goals (go_wp2; go_ret; exact ⟨rfl, by first | rfl | (unfold World.freeze; split <;> rfl), by first | rfl | (unfold World.freeze; split <;> rfl), by first | rfl | (unfold World.freeze; split <;> rfl), by first | rfl | (unfold World.freeze; split <;> rfl)⟩)
theorem str_call (w0 : World) : CallOk Tryz.prog w0 18 strC := by
  intro args hp n σ w xs l hR hx h
  refine .inr ⟨run_callFunc_enter Tryz.func18 rfl (by kernel_rfl), ?_⟩
  unfold strC at h
  split at h
  · rename_i b
    simp only [VRs, VR] at hx
    obtain ⟨v, ws, rfl, ⟨p, t, hs, rfl⟩, rfl⟩ := hx
    split at h
    · rename_i c0 j l' k ex hc
      split at h
      · rename_i m x hm
        obtain ⟨q1, g1⟩ := cbif h
        clear h
        cases g1
        obtain ⟨q1, q2⟩ := bif_t q1
        have q1 := Nat.le_of_ble_eq_true q1
        have q2 := Nat.le_of_ble_eq_true q2
        obtain ⟨vs, h1, h2, _, _⟩ := hR.at hs hc (by simp)
        simp only [VRs, VR] at h1
        obtain ⟨v0, ws, rfl, _, v1, ws1, rfl, ⟨g, u, o', C, hsj, rfl, hlk, hkc, _, ho, hfit, _⟩, rfl⟩ := h1
        have ho := ho (.inl (by omega))
        subst ho
        obtain ⟨hrow, arr, z, hT⟩ := hR.at hsj hm (by simp)
        have hc1 := (h2.cell (i := 1) rfl).1
        have hrow' := hrow
        obtain ⟨arr', ty, lo, hi, e1, e2, ⟨sp, e3⟩, _⟩ := hrow'
        rw [hT] at e1; cases e1
        have hbl : (bys (l' + 1) x).length = l' + 1 := bys_len _ _
        have hle : m ≤ arr.size := by have := congrArg List.length e3; simp [bys_len] at this; omega
        have call := str_row p g n C 0 _ arr (bys (l' + 1) x) w (fun e => by rw [e] at hbl; cases hbl) (by omega) (by omega) ?_ (by rw [hbl]; exact hc1) hT (fun i b hb => by
          rw [add_eq]
          refine (hrow.cell (i := 0 + i) ?_).1
          rw [← bys_take m x (l' + 1) q1, List.getElem?_take] at hb
          split at hb
          · rw [Nat.zero_add, List.getElem?_map, hb]; rfl
          · cases hb)
        · refine (callsIn_wide (n := 0)).2 (Calls.mono call ?_)
          rintro e w' ⟨rfl, hh, e1, e2, e3⟩
          have hother : ∀ i, i ≠ g → w'.heap[i]? = w.heap[i]? := fun i hi => by
            rw [hh]; unfold World.freeze; split
            · rfl
            · simp only [Array.getElem?_modify]; rw [if_neg (fun e => hi e.symm)]
          have hsize : w'.heap.size = w.heap.size := by rw [hh]; unfold World.freeze; split <;> simp
          refine ⟨_, rfl, _, σ, List.mem_singleton.2 rfl, by simp only [VR], ?_, Ex.refl _ _, Nle.refl _⟩
          have hj := (hR.old _ _ _ hsj).1
          have hp0 := (hR.old _ _ _ hsj).2.1
          refine (hR.kill hj).chg hsize hother e1 e2 e3 hp0 (fun i q v hi hic hq => ?_)
          rw [hget_hset _ _ _ _ hj hi] at hic
          by_cases e : i = j
          · rw [if_pos e] at hic; exact absurd rfl hic
          · rw [if_neg e] at hic
            exact hR.apart i j q v g u hi hj hic (by rw [hm]; simp) e hq hsj
        · rw [hbl]; omega
      · cases h
    · cases h
  · cases h
end Go.Proofs.YtmjckbfjaecjjaaGreatDoor
