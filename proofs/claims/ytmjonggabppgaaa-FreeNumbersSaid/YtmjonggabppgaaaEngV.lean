/- The model's own entry for slices.overlaps keeps a contract: two arrays do not overlap. -/
import Derived.Test.YtmjonggabppgaaaEngU
import Derived.Lib.Overlaps
set_option linter.unusedSimpArgs false
set_option linter.unusedVariables false
namespace Go.Eng
open Go.RowKit (Below)
def En.srt : En → Srt | .ints _ => .ints | .bytes => .bytes | .rows _ => .rows
def ovCtr (e : En) : Ctr :=
  let i (n : Nat) : SX := .at .int n
  { ss := [.int, .int, .int, .int, .int, e.srt, .int, .int, .int, .int, .int, .int, e.srt, .int]
    args := [.one (.slice (i 0) (.int 0) (i 1) (i 2) (i 3) (i 4) e.stride), .one (.slice (i 7) (.int 0) (i 8) (i 9) (i 10) (i 11) e.stride)]
    pre := [.arr e (i 0) (.at e.srt 5) (i 6), .arr e (i 7) (.at e.srt 12) (i 13)]
    reqs := [eLe (i 3) (i 6), eLe (i 10) (i 13)]
    ps := []
    res := .one (.bool (.bool false))
    post := [.arr e (i 0) (.at e.srt 5) (i 6), .arr e (i 7) (.at e.srt 12) (i 13)]
    facts := [] }
theorem rows_apart {w0 w : World} {b c : Nat} {u v : List Value} {y z : Bool} {H : HProp} (h : Sat w0 (star (row b 0 u y) (star (row c 0 v z) H)) w) (hu : u ≠ []) (hv : v ≠ []) : b ≠ c := by
  obtain ⟨x, ⟨a, r, d, rfl, rfl, a2, r2, d2, rfl, rfl, h3⟩, hi⟩ := h
  intro e
  subst e
  have e1 : rowH b 0 u y b 0 ≠ none := by
    cases u with
    | nil => exact absurd rfl hu
    | cons q l => simp [rowH]
  have e2 : rowH b 0 v z b 0 ≠ none := by
    cases v with
    | nil => exact absurd rfl hv
    | cons q l => simp [rowH]
  rcases d b 0 with e | e
  · exact e1 e
  · unfold Hl.un at e
    cases hq : rowH b 0 v z b 0 with
    | none => exact e2 hq
    | some q => rw [hq] at e; cases e
section
variable {G : Type} (S : Sig G) {P : Program}
theorem ext_overlaps {f : FuncId} {fn : Func} {e : En} {tS tR et : TypeId} (hf : P.funcs[f]? = some fn) (hname : (fn.name == "runtime.NumGoroutine") = false) (hb : fn.body.isNone = true)
    (hn : Extern.findNext fn = none) (he : Extern.find fn = some (Extern.SlicesOverlaps.overlaps fn.params fn.resultTypes)) (hp : fn.params = #[tS, tS]) (hr : fn.resultTypes = #[tR])
    (ht : P.underlying tS = some (.slice et)) (hs : szOf P et = some e.stride) (h1 : 1 ≤ e.stride) : ExtOk S P f (ovCtr e) := by
  intro ch w0 F ρ w xs hx hq hsat
  obtain ⟨v1, v2, rfl, hv1, hv2⟩ : ∃ v1 v2, xs = [v1, v2] ∧ SV.R S ρ (.one (.slice (.at .int 0) (.int 0) (.at .int 1) (.at .int 2) (.at .int 3) (.at .int 4) e.stride)) v1 ∧
      SV.R S ρ (.one (.slice (.at .int 7) (.int 0) (.at .int 8) (.at .int 9) (.at .int 10) (.at .int 11) e.stride)) v2 := by
    match xs, hx with
    | [v1, v2], hx => exact ⟨v1, v2, rfl, hx.1, hx.2.1⟩
  have hv1 := R_one S ρ hv1
  have hv2 := R_one S ρ hv2
  have q1 := hq _ (by simp [ovCtr]; exact .inl rfl)
  have q2 := hq (eLe (.at .int 10) (.at .int 13)) (by simp [ovCtr])
  refine ⟨.bool false, w, ?_, ρ, Ext.refl _ _, .inr rfl, hsat, by simp [ovCtr]⟩
  rw [run_callFunc_extern hf hname hb hn he]
  have main : (Extern.SlicesOverlaps.overlaps fn.params fn.resultTypes #[v1, v2]).run P w = .ok (.bool false) w := by
    rw [hp, hr]
    have hz : ∀ w, (sizeOf et).run P w = .ok e.stride w := fun w => run_sizeOfE hs w
    subst hv1; subst hv2
    have triv : ∀ (a b : Option Addr) (la lb ca cb : Nat), (la = 0 ∨ lb = 0 ∨ a = none ∨ b = none) → (Extern.SlicesOverlaps.overlaps #[tS, tS] #[tR] #[.slice a la ca, .slice b lb cb]).run P w = .ok (.bool false) w := by
      intro a b la lb ca cb hor
      change Sem.run P (α := Value) (do
        let some t := (#[tS, tS] : Array TypeId)[0]? | stuck "slices.overlaps: no parameter types"
        let .slice elem ← underlying t | stuck "slices.overlaps: slice type expected"
        let size ← sizeOf elem
        match (a : Option Addr), (b : Option Addr) with
        | some a, some b =>
          if la = 0 ∨ lb = 0 ∨ size = 0 then pure (Value.bool false)
          else if a.block != b.block && (← frozen a) && (← frozen b) then unsupported .addressObserved
          else do
            if a.block != b.block then do
              noView a; noView b
              if ← mayBeOne a b then return Value.bool ((← choose (.extern "sameAddr.stringBytes" 2)) == 1)
            pure (Value.bool (a.block == b.block && a.off < b.off + lb * size && b.off < a.off + la * size))
        | _, _ => pure (Value.bool false)) w = _
      cases a <;> cases b <;> simp [run_underlying ht, hz]
      rcases hor with h | h | h | h
      · simp [h]
      · simp [h]
      · cases h
      · cases h
    simp only [SC.den]
    rw [eLe_den] at q1 q2
    generalize hb1 : ((SX.at .int 0).den S ρ).toInt = b1 at *
    generalize hb2 : ((SX.at .int 7).den S ρ).toInt = b2 at *
    by_cases n1 : b1 < 0
    · exact triv _ _ _ _ _ _ (.inr (.inr (.inl (by simp [n1]))))
    by_cases n2 : b2 < 0
    · exact triv _ _ _ _ _ _ (.inr (.inr (.inr (by simp [n2]))))
    by_cases n3 : ((SX.at .int 3).den S ρ).toInt.toNat = 0
    · exact triv _ _ _ _ _ _ (.inl n3)
    by_cases n4 : ((SX.at .int 10).den S ρ).toInt.toNat = 0
    · exact triv _ _ _ _ _ _ (.inr (.inl n4))
    rw [if_neg n1, if_neg n2]
    simp only [ovCtr, hpDen_cons, star_assoc, Ch.den] at hsat
    rw [SX.den_wc, SX.den_wc, SX.den_wc, SX.den_wc, SX.den_wc, SX.den_wc] at hsat
    obtain ⟨spare1, hsat⟩ := sat_ex hsat
    obtain ⟨g1, hsat⟩ := sat_and hsat
    obtain ⟨g2, hsat⟩ := sat_and hsat
    obtain ⟨g3, hsat⟩ := sat_and hsat
    rw [← star_assoc, star_comm (row _ _ _ _), star_assoc] at hsat
    obtain ⟨spare2, hsat⟩ := sat_ex hsat
    obtain ⟨k1, hsat⟩ := sat_and hsat
    obtain ⟨k2, hsat⟩ := sat_and hsat
    obtain ⟨k3, hsat⟩ := sat_and hsat
    rw [hb1] at g3 hsat
    rw [hb2] at k3 hsat
    generalize hA : e.vals ((SX.at e.srt 5).den S ρ) ++ spare1 = A at *
    generalize hB : e.vals ((SX.at e.srt 12).den S ρ) ++ spare2 = B at *
    have lA : A.length = ((SX.at .int 6).den S ρ).toInt.toNat * e.stride := by rw [← hA, List.length_append]; exact g1
    have lB : B.length = ((SX.at .int 13).den S ρ).toInt.toNat * e.stride := by rw [← hB, List.length_append]; exact k1
    have pA : 0 < A.length := by rw [lA]; exact Nat.mul_pos (by omega) h1
    have pB : 0 < B.length := by rw [lB]; exact Nat.mul_pos (by omega) h1
    have nA : A ≠ [] := List.length_pos_iff.1 pA
    have nB : B ≠ [] := List.length_pos_iff.1 pB
    have hne := rows_apart hsat nB nA
    obtain ⟨cB, eB, hB'⟩ := Sat.load_strict hsat nB
    obtain ⟨cellB, _⟩ := hsat.load (i := 0) pB
    rw [star_left_comm] at hsat
    obtain ⟨cA, eA, hA'⟩ := Sat.load_strict hsat nA
    refine Lib.run_overlaps_apart w tS tR et ht e.stride hz ⟨b1.toNat, _, none⟩ ⟨b2.toNat, _, none⟩ _ _ _ _ (fun h => hne h.symm) eA eB cA.size cB.size ?_ ?_ ?_ ?_ ?_
    · simp [World.shape?, hA']
    · simp [World.shape?, hB']
    · intro h0
      simp only [World.cell?, hB'] at cellB
      have : cB = #[] := Array.eq_empty_of_size_eq_zero h0
      rw [this] at cellB
      simp at cellB
    · simp [World.frozen?, hA']
    · simp [World.frozen?, hA']
  rw [show ([v1, v2] : List Value).toArray = #[v1, v2] from rfl, main]
  rfl
end
end Go.Eng
