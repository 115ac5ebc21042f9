/- What a few calls answer that the document fixes: always true (the run of its code). -/
import Derived.Test.YtmjonggabppgaaaPd3
set_option linter.unusedVariables false
namespace Go.Proofs.Ytmjonggabppgaaa
noncomputable section
open Go.Eng
def liveInv : Inv := ⟨[.int], [(95, .one (.int .i64 (di 0)))], [], [eLe (.int 0) (di 0), eLe (di 0) (.int 140737488355328)], .f2 41 (.int 140737488355328) (di 0)⟩
def liveCx : Cx := { specs := [(43, [sumCtr])], anns := [(21, [(19, .inv liveInv)])], exts := [(88, [ovCtr (.rows [.int .i64, .int .i64])])] }
theorem live_chk : VC.chk [] [] (vcOf Try.prog liveCx 1200 10 Go.Eng.yes) = true := by kernel_rfl
theorem ovE_ok {G : Type} (S : Sig G) : ExtOk S Try.prog 88 (ovCtr (.rows [.int .i64, .int .i64])) :=
  ext_overlaps S (fn := Try.f88) (tS := 80) (tR := 4) (et := 85) Try.func88 (by kernel_rfl) (by kernel_rfl) (by kernel_rfl) (by kernel_rfl) (by kernel_rfl) (by kernel_rfl) (by kernel_rfl) (by kernel_rfl) (by decide)
theorem liveCx_ok {G : Type} (S : Sig G) : CxOk S Try.prog liveCx := by
  refine ⟨fun f sps h sp hm => ?_, fun f l h i sp args hm => ?_, fun f sps h sp hm => ?_⟩
  · simp only [liveCx, assoc] at h
    cases hb : Nat.beq 43 f
    · rw [hb] at h; cases h
    · rw [hb] at h; cases h
      rw [List.mem_singleton] at hm
      rw [← Nat.eq_of_beq_eq_true hb, hm]
      exact ⟨by decide, sum_ok S⟩
  · simp only [liveCx, assoc] at h
    cases hb : Nat.beq 21 f
    · rw [hb] at h; cases h
    · rw [hb] at h; cases h
      simp at hm
  · simp only [liveCx, assoc] at h
    cases hb : Nat.beq 88 f
    · rw [hb] at h; cases h
    · rw [hb] at h; cases h
      rw [List.mem_singleton] at hm
      rw [← Nat.eq_of_beq_eq_true hb, hm]
      exact ⟨by decide, ovE_ok S⟩
theorem live_vc {G : Type} (S : Sig G) (ρ : Go.Eng.Env G) : (Go.Eng.vcOf Try.prog liveCx 1200 10 Go.Eng.yes).den S ρ := by
  have h := live_chk
  revert h
  generalize Go.Eng.vcOf Try.prog liveCx 1200 10 Go.Eng.yes = v
  intro h
  exact vc_chk S h ρ
theorem live_ok {G : Type} (S : Sig G) : CtrOk S Try.prog 10 Go.Eng.yes :=
  @vcOf_sound G S Try.prog liveCx (liveCx_ok S) 1200 10 Go.Eng.yes (@live_vc G S)
end
end Go.Proofs.Ytmjonggabppgaaa
