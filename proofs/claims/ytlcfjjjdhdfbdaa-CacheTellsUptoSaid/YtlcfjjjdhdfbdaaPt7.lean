/- CacheTells: the law's contract, proved. -/
import Derived.Test.YtlcfjjjdhdfbdaaPt6
set_option linter.unusedSimpArgs false
set_option linter.unusedVariables false
set_option maxRecDepth 20000
namespace Go.Proofs.Ytlcfjjjdhdfbdaa
noncomputable section
open Go.Eng
theorem ap1_3 (b : Bool) : ap1 3 (U.bool b : U GG) = .int (if b then 1 else 0) := rfl
theorem ct_t0 (S : Sig GG) (hS : TlSig S) (ρ : Go.Eng.Env GG) : ctTail.den S ρ := by
  simp only [ctTail, ap1_155, ap1_33, ap1_3, hS.cs.u291, hS.cs.u292, hS.cs.u294, hS.cs.u295, hS.cs.u296, hS.cs.u297, hS.cs.u299, hS.cs.u300, hS.cs.u301, hS.cs.u287, hS.cs.u288, hS.cs.u289, hS.cs.u290, hS.cs.u304, hS.cs.u305, hS.cs.u308, hS.cs.u309, hS.u320, hS.u321, hS.u322, hS.u323, hS.cs.u280, hS.cs.u281, hS.cs.u282, hS.cs.u283, hS.cs.u284, hS.cs.u285, co_g, dvOf_g, hS.cs.dv.u200, hS.cs.dv.u201, hS.cs.dv.u202, hS.cs.dv.u203, hS.cs.dv.u204, hS.cs.dv.u205, hS.cs.dv.u206, hS.cs.dv.u207, hS.cs.dv.u208, hS.cs.dv.u209, hS.cs.dv.u210, hS.cs.dv.u211, hS.cs.dv.u212, hS.cs.dv.u213, hS.cs.dv.u214, hS.cs.dv.u215, hS.cs.dv.u216, hS.cs.dv.u217, hS.cs.dv.u220, hS.cs.dv.u221, hS.cs.dv.u222, hS.cs.dv.u223, hS.cs.dv.u224, hS.cs.dv.u225, hS.cs.dv.u226, hS.cs.dv.u227, hS.cs.dv.u228, hS.cs.dv.u229, hS.cs.dv.u230, hS.cs.dv.u231, hS.cs.dv.u232, hS.cs.dv.u233, hS.cs.dv.u234, co_g, csOf_g, hS.cs.rg.u240, hS.cs.rg.u241, hS.cs.rg.u242, hS.cs.rg.u243, hS.cs.rg.u244, hS.cs.rg.u245, hS.cs.rg.u246, hS.cs.rg.u247, hS.cs.rg.u248, hS.cs.rg.u249, hS.cs.u250, hS.cs.u251, hS.cs.u252, hS.cs.u253, hS.cs.u254, hS.cs.u255, hS.cs.u256, hS.cs.u257, hS.cs.u258, hS.cs.u259, hS.cs.u260, hS.cs.u261, hS.cs.u262, hS.cs.u263, hS.cs.u264, hS.cs.u265, hS.cs.u266, hS.cs.u267, hS.cs.u268, hS.cs.u269, hS.cs.u270, hS.cs.u271, hS.cs.u272, hS.cs.u273, hS.cs.u274, VC.den, SX.den, co_int, co_bool, co_bytes, co_ints, co_rows, co_map, Env.upd, p155, p153, p23, p45, p46, p47, p50, b46, b47, t46, t47, p2_45, ap1_2, ap1_30, ap1_31, ap1_32, ap1_152, ap1_153, ap1_154, ap2_40, ap2_41, ap2_42, ap2_43, ap2_45, p48_b, ap2_51i, ap2_52i, ap2_110, ap2_111, ap2_113, ap2_114, ap2_115, ap2_117, ap2_120, ap2_126, ap2_141, ap3_112, ap3_140, beq_iff_eq, Bool.not_eq_true', beq_eq_false_iff_ne, ne_eq, Bool.not_not, U.toProp_bool, U.toBool_bool, i64lo, i64hi, U.toInt_int, U.toInts_ints, U.toBytes_bytes, U.toRows_rows, U.toMap_amap, Int.toNat_zero, Nat.reduceEqDiff, reduceIte, propB_iff, leB_iff, ltB_iff, U.int.injEq, U.bool.injEq, U.bytes.injEq, U.ints.injEq, U.rows.injEq]
  intro _ _ _ _ _ _ i0 i1 i2 i3 i4 _ _ _ _ _ _
  refine ⟨rfl, fun k e sp b g gd is pins k0 k1 hT hK hf ha => ?_⟩
  generalize csOf (U.g g) = c at *
  generalize dvOf (U.g gd) = d at *
  have hl := hT.pinl
  have hc := cntK_step (pins := pins) k0
  have hle := cntK_le pins k
  have h1 := pinN_le c []
  have h2 := dirN_le c []
  have h3 := hT.good.len
  refine ⟨fun hk => ?_, fun hk => ?_⟩
  · have hi : isAt pins k = pins.getD k.toNat 0 := rfl
    rw [hi] at hc
    refine ⟨by omega, fun h => ?_, fun h => ?_⟩
    · rw [if_pos h] at hc
      exact ⟨by omega, by omega, by omega, by omega, by omega, by omega, by omega, trivial⟩
    · rw [if_neg (by omega)] at hc
      exact ⟨by omega, by omega, by omega, by omega, by omega, by omega, trivial⟩
  · have k8 : k = 8 := by omega
    subst k8
    have hh := tell_held hT
    rcases ha with rfl | ⟨rfl, hb⟩ | ⟨rfl, hs⟩
    · (repeat' first | apply And.intro | intro _) <;> first | trivial | omega | (exfalso; omega)
    · cases b
      · (repeat' first | apply And.intro | intro _) <;> first | trivial | omega | (exfalso; first | omega | contradiction)
      · cases hb
    · have hs := stuck_held hT hs
      (repeat' first | apply And.intro | intro _) <;> first | trivial | omega | (exfalso; omega)
theorem room_frames (c : Cs) (d : Dv) : (c.roomC d).frames = c.frames := by
  rcases room_or c d with h | h <;> rw [h]; rfl
theorem hold_frames (c : Cs) (d : Dv) (n : Int) : (c.holdC d n).frames = c.frames := by
  unfold Cs.holdC
  split
  · rfl
  · split
    · rfl
    · split
      · exact room_frames _ _
      · exact room_frames c (d.rdD n)
theorem put_frames (c : Cs) (d : Dv) (n : Int) (b : List UInt8) : (c.putC d n b).frames = c.frames := by
  unfold Cs.putC
  split
  · rfl
  · split
    · rfl
    · split
      · exact room_frames _ _
      · exact room_frames c d
theorem pin_frames (c : Cs) (d : Dv) (n : Int) : (c.pinC d n).frames = c.frames := by
  unfold Cs.pinC
  split
  · exact hold_frames c d n
  · exact hold_frames c d n
theorem unp_frames (c : Cs) (n : Int) : (c.unpC n).frames = c.frames := by
  unfold Cs.unpC
  split <;> rfl
theorem pins_le {c : Cs} {d : Dv} {is pins : List Int} {i n : Int} (hT : Tell c d is pins) (hK : Cnt c d i i) (n0 : 0 ≤ n) (n1 : n < 8) : 0 ≤ isAt pins n ∧ isAt pins n ≤ i := by
  by_cases q : ∃ f ∈ c.fr, f.n = n
  · obtain ⟨f, f1, f2⟩ := q
    have a := hT.pin f f1
    have b := hT.good.pins f f1
    have d := hK.p f f1
    rw [f2] at a; omega
  · have := hT.unp n n0 n1 fun f f1 f2 => q ⟨f, f1, f2⟩
    have h1 := hT.good.cnt
    have h2 := hK.h
    omega
theorem ct_t1 (S : Sig GG) (hS : TlSig S) (ρ : Go.Eng.Env GG) : ctTail1.den S ρ := by
  have t0 := ct_t0 S hS
  simp only [ctTail1, t0, ap1_155, ap1_33, ap1_3, hS.cs.u291, hS.cs.u292, hS.cs.u294, hS.cs.u295, hS.cs.u296, hS.cs.u297, hS.cs.u299, hS.cs.u300, hS.cs.u301, hS.cs.u287, hS.cs.u288, hS.cs.u289, hS.cs.u290, hS.cs.u304, hS.cs.u305, hS.cs.u308, hS.cs.u309, hS.u320, hS.u321, hS.u322, hS.u323, hS.cs.u280, hS.cs.u281, hS.cs.u282, hS.cs.u283, hS.cs.u284, hS.cs.u285, co_g, dvOf_g, hS.cs.dv.u200, hS.cs.dv.u201, hS.cs.dv.u202, hS.cs.dv.u203, hS.cs.dv.u204, hS.cs.dv.u205, hS.cs.dv.u206, hS.cs.dv.u207, hS.cs.dv.u208, hS.cs.dv.u209, hS.cs.dv.u210, hS.cs.dv.u211, hS.cs.dv.u212, hS.cs.dv.u213, hS.cs.dv.u214, hS.cs.dv.u215, hS.cs.dv.u216, hS.cs.dv.u217, hS.cs.dv.u220, hS.cs.dv.u221, hS.cs.dv.u222, hS.cs.dv.u223, hS.cs.dv.u224, hS.cs.dv.u225, hS.cs.dv.u226, hS.cs.dv.u227, hS.cs.dv.u228, hS.cs.dv.u229, hS.cs.dv.u230, hS.cs.dv.u231, hS.cs.dv.u232, hS.cs.dv.u233, hS.cs.dv.u234, co_g, csOf_g, hS.cs.rg.u240, hS.cs.rg.u241, hS.cs.rg.u242, hS.cs.rg.u243, hS.cs.rg.u244, hS.cs.rg.u245, hS.cs.rg.u246, hS.cs.rg.u247, hS.cs.rg.u248, hS.cs.rg.u249, hS.cs.u250, hS.cs.u251, hS.cs.u252, hS.cs.u253, hS.cs.u254, hS.cs.u255, hS.cs.u256, hS.cs.u257, hS.cs.u258, hS.cs.u259, hS.cs.u260, hS.cs.u261, hS.cs.u262, hS.cs.u263, hS.cs.u264, hS.cs.u265, hS.cs.u266, hS.cs.u267, hS.cs.u268, hS.cs.u269, hS.cs.u270, hS.cs.u271, hS.cs.u272, hS.cs.u273, hS.cs.u274, VC.den, SX.den, co_int, co_bool, co_bytes, co_ints, co_rows, co_map, Env.upd, p155, p153, p23, p45, p46, p47, p50, b46, b47, t46, t47, p2_45, ap1_2, ap1_30, ap1_31, ap1_32, ap1_152, ap1_153, ap1_154, ap2_40, ap2_41, ap2_42, ap2_43, ap2_45, p48_b, ap2_51i, ap2_52i, ap2_110, ap2_111, ap2_113, ap2_114, ap2_115, ap2_117, ap2_120, ap2_126, ap2_141, ap3_112, ap3_140, beq_iff_eq, Bool.not_eq_true', beq_eq_false_iff_ne, ne_eq, Bool.not_not, U.toProp_bool, U.toBool_bool, i64lo, i64hi, U.toInt_int, U.toInts_ints, U.toBytes_bytes, U.toRows_rows, U.toMap_amap, Int.toNat_zero, Nat.reduceEqDiff, reduceIte, propB_iff, leB_iff, ltB_iff, U.int.injEq, U.bool.injEq, U.bytes.injEq, U.ints.injEq, U.rows.injEq]
  generalize ((ρ 5).toRows.getD (ρ 16).toInt.toNat []).getD (Int.toNat 1) 0 = n
  generalize ((ρ 5).toRows.getD (ρ 16).toInt.toNat []).getD (Int.toNat 2) 0 = x
  generalize ((ρ 5).toRows.getD (ρ 16).toInt.toNat []).getD 0 0 = K
  generalize csOf (U.co S .g (ρ 17)) = c
  generalize dvOf (U.co S .g (ρ 18)) = d
  generalize (ρ 19).toInts = is
  generalize (ρ 20).toInts = pins
  generalize (ρ 16).toInt = i
  generalize (ρ 3).toInt = l
  generalize (ρ 0).toInt = f
  intro b i0 i1 i2 i3 i4 hT hK hf hb
  have hb : b = (decide (0 ≤ n) && decide (n < 8)) := beq_iff_eq.1 hb
  have hbt : b = true → 0 ≤ n ∧ n < 8 := fun h => by rw [hb, Bool.and_eq_true, decide_eq_true_eq, decide_eq_true_eq] at h; exact h
  have hbf : ¬ (0 ≤ n ∧ n < 8) → (if b = true then (1 : Int) else 0) = 0 := fun h => if_neg (fun q => h (hbt q))
  have hbn : b = false → ¬ (0 ≤ n ∧ n < 8) := fun h q => by rw [hb, decide_eq_true q.1, decide_eq_true q.2] at h; cases h
  have w1 := hK.w
  have w2 := hK.l
  have w3 := hK.r
  have w4 := hK.h
  have w5 := hK.m
  have w6 := hK.e
  have w7 : (d.keep.length : Int) = 0 := by rw [hT.dv.keep]; rfl
  have w8 : ∀ g ∈ c.fr, g.pins ≤ 4611686018427387904 := fun g hg => by have := hK.p g hg; omega
  refine ⟨fun k1 => ?_, fun k1 => ⟨fun k2 => ?_, fun k2 => ⟨fun k3 => ?_, fun k3 => ⟨fun k4 => ?_, fun k4 => ⟨fun k5 => ?_, fun k5 => ?_⟩⟩⟩⟩⟩
  · obtain ⟨t1, t2, t3⟩ := tell_hold hT hK n
    have hfr := (hold_frames c d n).trans hf
    have hans : ansOk (c.holdC d n) (c.holdE d n) (if b = true then 1 else 0) := by
      rcases t3 with ⟨e, _⟩ | ⟨e, hs, ec⟩ | ⟨e, hr⟩
      · exact .inl e
      · rw [ec]; exact .inr (.inr ⟨e, hs⟩)
      · exact .inr (.inl ⟨e, hbf hr⟩)
    refine ⟨by omega, by omega, by omega, by omega, by omega, by omega, by omega, fun xb xl xc X hor h1 h2 h3 h4 => ⟨fun he => ⟨fun hbb => ?_, fun hbb => ?_⟩, fun he => ⟨t1, t2, hfr, hans, trivial⟩⟩⟩
    · obtain ⟨_, n0, n1, en⟩ : c.holdE d n = 0 ∧ 0 ≤ n ∧ n < 8 ∧ (c.holdC d n).lastF.n = n := by
        rcases t3 with q | ⟨e, _⟩ | ⟨e, _⟩
        · exact q
        · rw [he] at e; cases e
        · rw [he] at e; cases e
      have hp := hold_pos he
      have hmem : (c.holdC d n).lastF ∈ (c.holdC d n).fr := by
        have e : (c.holdC d n).lastF = (c.holdC d n).at' (((c.holdC d n).fr.length - 1 : Nat) : Int) := by
          show (c.holdC d n).at' _ = _
          rw [show (((c.holdC d n).fr.length : Nat) : Int) + -1 = (((c.holdC d n).fr.length - 1 : Nat) : Int) by omega]
        rw [e]; exact at_mem (by omega)
      have hfb := t1.fb _ hmem
      rw [en] at hfb
      have hisr := hT.isr n n0 n1
      have hX : X.take xl.toNat = filledB (isAt is n) := by
        have h : (ap2 155 (U.bytes (X.take xl.toNat)) (U.bytes (c.holdC d n).lastF.b) : U GG).toProp := hor.resolve_left (fun q => q he)
        rw [p155, hfb] at h
        injection h
      have hfl := filled_len hisr.1
      have hxl : xl = 512 := by
        have := congrArg List.length hX
        rw [List.length_take, hfl] at this; omega
      have hget : ∀ j : Nat, j < 512 → (((X.getD j 0).toNat : Nat) : Int) = isAt is n := by
        intro j hj
        have e : X.getD j 0 = (filledB (isAt is n)).getD j 0 := by
          rw [← hX, List.getD_eq_getElem?_getD, List.getD_eq_getElem?_getD, List.getElem?_take_of_lt (by omega)]
        rw [e, filled_at hisr.1 hisr.2 hj]; omega
      have g0 := hget 0 (by decide)
      have g1 := hget 511 (by decide)
      have hil := hT.isl
      have hin : is.getD n.toNat 0 = isAt is n := rfl
      rw [hin]
      refine ⟨fun _ => ⟨by omega, by omega, n0, n1, by omega, fun _ => ⟨by omega, by omega, fun q => absurd g1 q, fun _ => ⟨t1, t2, hfr, hans, trivial⟩⟩, fun q => absurd g0 q⟩, fun q => absurd hxl q⟩
    · rcases t3 with ⟨_, n0, n1, _⟩ | ⟨e, _⟩ | ⟨e, _⟩
      · exact absurd ⟨n0, n1⟩ (hbn hbb)
      · rw [he] at e; cases e
      · rw [he] at e; cases e
  · refine ⟨fun x0 => ⟨fun x1 => ⟨by omega, by omega, by omega, by omega, by omega, hK.mono (by omega) (by omega), trivial⟩, fun x1 xb X xc hX xb0 hxc => ?_⟩, fun x0 => ⟨by omega, by omega, by omega, by omega, by omega, hK.mono (by omega) (by omega), trivial⟩⟩
    subst hX
    rw [Int.toNat_natCast, List.take_length]
    obtain ⟨t1, t2⟩ := tell_put hT hK (n := n) (x := x) x0 (by omega)
    have hfr := (put_frames c d n (filledB x)).trans hf
    refine ⟨by omega, by omega, by omega, by omega, Int.le_refl _, .inl xb0, fun he => ⟨fun hbb => ?_, fun hbb => ?_⟩, fun he => ?_⟩
    · obtain ⟨n0, n1⟩ := hbt hbb
      have hil := hT.isl
      rcases t2 with ⟨_, _, _, t⟩ | ⟨e, _⟩ | ⟨e, _⟩
      · exact ⟨n0, n1, by omega, t, t1, hfr, .inl he, trivial⟩
      · rw [he] at e; cases e
      · rw [he] at e; cases e
    · rcases t2 with ⟨_, n0, n1, t⟩ | ⟨e, _⟩ | ⟨e, _⟩
      · exact absurd ⟨n0, n1⟩ (hbn hbb)
      · rw [he] at e; cases e
      · rw [he] at e; cases e
    · rcases t2 with ⟨e, _⟩ | ⟨e, hs, ec, t⟩ | ⟨e, hr, t⟩
      · exact absurd e he
      · exact ⟨t, t1, hfr, by rw [ec]; exact .inr (.inr ⟨e, hs⟩), trivial⟩
      · exact ⟨t, t1, hfr, .inr (.inl ⟨e, hbf hr⟩), trivial⟩
  · obtain ⟨t1, t2⟩ := tell_pin hT hK n
    have hfr := (pin_frames c d n).trans hf
    have hpl := hT.pinl
    refine ⟨by omega, by omega, by omega, by omega, by omega, by omega, by omega, w8, fun he => ⟨fun hbb => ?_, fun hbb => ?_⟩, fun he => ?_⟩
    · obtain ⟨n0, n1⟩ := hbt hbb
      have hpn : 0 ≤ isAt pins n ∧ isAt pins n ≤ i := pins_le hT hK n0 n1
      have hin : pins.getD n.toNat 0 = isAt pins n := rfl
      rw [hin]
      rcases t2 with ⟨_, _, _, t⟩ | ⟨e, _⟩ | ⟨e, _⟩
      · exact ⟨n0, n1, by omega, by omega, t, t1, hfr, .inl he, trivial⟩
      · rw [he] at e; cases e
      · rw [he] at e; cases e
    · rcases t2 with ⟨_, n0, n1, t⟩ | ⟨e, _⟩ | ⟨e, _⟩
      · exact absurd ⟨n0, n1⟩ (hbn hbb)
      · rw [he] at e; cases e
      · rw [he] at e; cases e
    · rcases t2 with ⟨e, _⟩ | ⟨e, hs, ec, t⟩ | ⟨e, hr, t⟩
      · exact absurd e he
      · exact ⟨t, t1, hfr, by rw [ec]; exact .inr (.inr ⟨e, hs⟩), trivial⟩
      · exact ⟨t, t1, hfr, .inr (.inl ⟨e, hbf hr⟩), trivial⟩
  · obtain ⟨t1, t2⟩ := tell_unp hT hK n
    have hfr := (unp_frames c n).trans hf
    have hpl := hT.pinl
    refine ⟨w8, fun hbb => ?_, fun hbb => ?_⟩
    · rcases t2 with ⟨_, n0, n1, _⟩ | ⟨e, _, t⟩
      · exact absurd ⟨n0, n1⟩ (hbn hbb)
      · exact ⟨fun q => absurd e q, fun _ => ⟨by omega, by omega, by omega, by omega, by omega, t, t1, hfr, trivial⟩⟩
    · obtain ⟨n0, n1⟩ := hbt hbb
      have hpn : 0 ≤ isAt pins n ∧ isAt pins n ≤ i := pins_le hT hK n0 n1
      have hin : pins.getD n.toNat 0 = isAt pins n := rfl
      rw [hin]
      have key : (ap2 48 (U.bool (c.unpE n == 0)) (ap2 46 (U.int 0) (U.int (isAt pins n))) : U GG).toBool = true := by
        show ((c.unpE n == 0) == decide (0 < isAt pins n)) = true
        rcases t2 with ⟨e, _, _, hp, _⟩ | ⟨e, hp, _⟩
        · rw [e, decide_eq_true hp]; rfl
        · rw [e, decide_eq_false (by rw [hp n0 n1]; decide)]; rfl
      refine ⟨n0, n1, by omega, fun q => (by rw [key] at q; cases q), fun _ => ⟨fun he => ?_, fun he => ?_⟩⟩
      · rcases t2 with ⟨_, _, _, _, t⟩ | ⟨e, _⟩
        · exact ⟨by omega, t, t1, hfr, .inl rfl, trivial⟩
        · rw [he] at e; cases e
      · rcases t2 with ⟨e, _⟩ | ⟨_, _, t⟩
        · exact absurd e he
        · exact ⟨t, t1, hfr, .inl rfl, trivial⟩
  · obtain ⟨t1, t2, t3, t4⟩ := tell_flush hT hK
    have hkp := flS_keep c.keys c d
    have hfr := hkp.frames.trans hf
    have w9 : ∀ g ∈ c.fr, 0 ≤ g.n ∧ g.n < 65536 := fun g hg => by have := hT.rng g hg; omega
    refine ⟨by omega, by omega, by omega, w9, fun xb X xc hX hxc => ⟨fun _ => ⟨fun q => ?_, fun q k k0 k1 => ⟨fun hk => ?_, fun hk => ⟨t2, t3.mono (by omega) (by omega), hfr, .inl rfl, trivial⟩⟩⟩, fun q => absurd t1 q⟩⟩
    · have := (tell_img t2.dv (n := 0) (by decide) (by decide) (t4 0 (by decide) (by decide)) (hT.isr 0 (by decide) (by decide)).1 (hT.isr 0 (by decide) (by decide)).2).1
      rw [hX, this] at q
      exact absurd rfl q
    · have hisr := hT.isr k k0 hk
      have := (tell_img t2.dv k0 hk (t4 k k0 hk) hisr.1 hisr.2).2
      have hil := hT.isl
      have hin : is.getD k.toNat 0 = isAt is k := rfl
      rw [hin, hX, this]
      rw [hX] at q
      exact ⟨by omega, by omega, by omega, by omega, fun q => absurd rfl q, fun _ => ⟨by omega, by omega, by omega, by omega, by omega, trivial⟩⟩
  · exact ⟨hK.mono (by omega) (by omega), .inl rfl, trivial⟩
theorem ct_t2 (S : Sig GG) (hS : TlSig S) (ρ : Go.Eng.Env GG) : ctTail2.den S ρ := by
  have t1 := ct_t1 S hS
  simp only [ctTail2, t1, ap1_155, ap1_33, ap1_3, hS.cs.u291, hS.cs.u292, hS.cs.u294, hS.cs.u295, hS.cs.u296, hS.cs.u297, hS.cs.u299, hS.cs.u300, hS.cs.u301, hS.cs.u287, hS.cs.u288, hS.cs.u289, hS.cs.u290, hS.cs.u304, hS.cs.u305, hS.cs.u308, hS.cs.u309, hS.u320, hS.u321, hS.u322, hS.u323, hS.cs.u280, hS.cs.u281, hS.cs.u282, hS.cs.u283, hS.cs.u284, hS.cs.u285, co_g, dvOf_g, hS.cs.dv.u200, hS.cs.dv.u201, hS.cs.dv.u202, hS.cs.dv.u203, hS.cs.dv.u204, hS.cs.dv.u205, hS.cs.dv.u206, hS.cs.dv.u207, hS.cs.dv.u208, hS.cs.dv.u209, hS.cs.dv.u210, hS.cs.dv.u211, hS.cs.dv.u212, hS.cs.dv.u213, hS.cs.dv.u214, hS.cs.dv.u215, hS.cs.dv.u216, hS.cs.dv.u217, hS.cs.dv.u220, hS.cs.dv.u221, hS.cs.dv.u222, hS.cs.dv.u223, hS.cs.dv.u224, hS.cs.dv.u225, hS.cs.dv.u226, hS.cs.dv.u227, hS.cs.dv.u228, hS.cs.dv.u229, hS.cs.dv.u230, hS.cs.dv.u231, hS.cs.dv.u232, hS.cs.dv.u233, hS.cs.dv.u234, co_g, csOf_g, hS.cs.rg.u240, hS.cs.rg.u241, hS.cs.rg.u242, hS.cs.rg.u243, hS.cs.rg.u244, hS.cs.rg.u245, hS.cs.rg.u246, hS.cs.rg.u247, hS.cs.rg.u248, hS.cs.rg.u249, hS.cs.u250, hS.cs.u251, hS.cs.u252, hS.cs.u253, hS.cs.u254, hS.cs.u255, hS.cs.u256, hS.cs.u257, hS.cs.u258, hS.cs.u259, hS.cs.u260, hS.cs.u261, hS.cs.u262, hS.cs.u263, hS.cs.u264, hS.cs.u265, hS.cs.u266, hS.cs.u267, hS.cs.u268, hS.cs.u269, hS.cs.u270, hS.cs.u271, hS.cs.u272, hS.cs.u273, hS.cs.u274, VC.den, SX.den, co_int, co_bool, co_bytes, co_ints, co_rows, co_map, Env.upd, p155, p153, p23, p45, p46, p47, p50, b46, b47, t46, t47, p2_45, ap1_2, ap1_30, ap1_31, ap1_32, ap1_152, ap1_153, ap1_154, ap2_40, ap2_41, ap2_42, ap2_43, ap2_45, p48_b, ap2_51i, ap2_52i, ap2_110, ap2_111, ap2_113, ap2_114, ap2_115, ap2_117, ap2_120, ap2_126, ap2_141, ap3_112, ap3_140, beq_iff_eq, Bool.not_eq_true', beq_eq_false_iff_ne, ne_eq, Bool.not_not, U.toProp_bool, U.toBool_bool, i64lo, i64hi, U.toInt_int, U.toInts_ints, U.toBytes_bytes, U.toRows_rows, U.toMap_amap, Int.toNat_zero, Nat.reduceEqDiff, reduceIte, propB_iff, leB_iff, ltB_iff, U.int.injEq, U.bool.injEq, U.bytes.injEq, U.ints.injEq, U.rows.injEq]
  intro _ _ _ _ j1 j2 j3 _ _ _ i g gd is pins i0 i1 hT hK hf
  refine ⟨fun hi => ⟨by omega, fun o o0 => ⟨fun h => ⟨?_, trivial⟩, fun h => ⟨?_, trivial⟩⟩⟩, fun _ => trivial⟩
  · generalize ((ρ 5).toRows.getD i.toNat []).getD (Int.toNat 1) 0 = n at *
    show (decide (n < 8) == (decide (0 ≤ n) && decide (n < 8))) = true
    rw [decide_eq_true h, Bool.true_and, beq_self_eq_true]
  · generalize ((ρ 5).toRows.getD i.toNat []).getD (Int.toNat 1) 0 = n at *
    show (false == (decide (0 ≤ n) && decide (n < 8))) = true
    rw [decide_eq_false (by omega)]; rfl
theorem ct_specs {S : Sig GG} (hS : CsSig S) : SpecsOk S Try.prog ctS := ⟨one_spec (by decide) (live_ok S hS), one_spec (by decide) (pn_ok S hS), one_spec (by decide) (fd_ok S hS), one_spec (by decide) (put_ok S hS), one_spec (by decide) (get_ok S hS), one_spec (by decide) (fl_of S hS sorted_at), one_spec (by decide) (img_ok S hS.dv), one_spec (by decide) (st_ok S hS), one_spec (by decide) (pin_ok S hS), one_spec (by decide) (unp_ok S hS), trivial⟩
theorem ct_ok (S : Sig GG) (hS : TlSig S) : CtrOk S Try.prog 3 ctCtr := by
  refine vcOf_sound S (C := ctCx) (fuel := 14) (cx_of (ct_specs hS.cs) ⟨⟨⟨by decide, emF_gh S hS.cs⟩, ⟨by decide, foK_gh S hS.cs⟩, trivial⟩, ⟨⟨by decide, spF_gh S⟩, ⟨by decide, nlR_gh S hS.cs⟩, trivial⟩, ⟨trivial, trivial, trivial, trivial, trivial, trivial, trivial⟩, trivial⟩ trivial) fun ρ => ?_
  rw [ct_vc]
  have t2 := ct_t2 S hS
  simp only [ctVc, t2, ap1_155, ap1_33, ap1_3, hS.cs.u291, hS.cs.u292, hS.cs.u294, hS.cs.u295, hS.cs.u296, hS.cs.u297, hS.cs.u299, hS.cs.u300, hS.cs.u301, hS.cs.u287, hS.cs.u288, hS.cs.u289, hS.cs.u290, hS.cs.u304, hS.cs.u305, hS.cs.u308, hS.cs.u309, hS.u320, hS.u321, hS.u322, hS.u323, hS.cs.u280, hS.cs.u281, hS.cs.u282, hS.cs.u283, hS.cs.u284, hS.cs.u285, co_g, dvOf_g, hS.cs.dv.u200, hS.cs.dv.u201, hS.cs.dv.u202, hS.cs.dv.u203, hS.cs.dv.u204, hS.cs.dv.u205, hS.cs.dv.u206, hS.cs.dv.u207, hS.cs.dv.u208, hS.cs.dv.u209, hS.cs.dv.u210, hS.cs.dv.u211, hS.cs.dv.u212, hS.cs.dv.u213, hS.cs.dv.u214, hS.cs.dv.u215, hS.cs.dv.u216, hS.cs.dv.u217, hS.cs.dv.u220, hS.cs.dv.u221, hS.cs.dv.u222, hS.cs.dv.u223, hS.cs.dv.u224, hS.cs.dv.u225, hS.cs.dv.u226, hS.cs.dv.u227, hS.cs.dv.u228, hS.cs.dv.u229, hS.cs.dv.u230, hS.cs.dv.u231, hS.cs.dv.u232, hS.cs.dv.u233, hS.cs.dv.u234, co_g, csOf_g, hS.cs.rg.u240, hS.cs.rg.u241, hS.cs.rg.u242, hS.cs.rg.u243, hS.cs.rg.u244, hS.cs.rg.u245, hS.cs.rg.u246, hS.cs.rg.u247, hS.cs.rg.u248, hS.cs.rg.u249, hS.cs.u250, hS.cs.u251, hS.cs.u252, hS.cs.u253, hS.cs.u254, hS.cs.u255, hS.cs.u256, hS.cs.u257, hS.cs.u258, hS.cs.u259, hS.cs.u260, hS.cs.u261, hS.cs.u262, hS.cs.u263, hS.cs.u264, hS.cs.u265, hS.cs.u266, hS.cs.u267, hS.cs.u268, hS.cs.u269, hS.cs.u270, hS.cs.u271, hS.cs.u272, hS.cs.u273, hS.cs.u274, VC.den, SX.den, co_int, co_bool, co_bytes, co_ints, co_rows, co_map, Env.upd, p155, p153, p23, p45, p46, p47, p50, b46, b47, t46, t47, p2_45, ap1_2, ap1_30, ap1_31, ap1_32, ap1_152, ap1_153, ap1_154, ap2_40, ap2_41, ap2_42, ap2_43, ap2_45, p48_b, ap2_51i, ap2_52i, ap2_110, ap2_111, ap2_113, ap2_114, ap2_115, ap2_117, ap2_120, ap2_126, ap2_141, ap3_112, ap3_140, beq_iff_eq, Bool.not_eq_true', beq_eq_false_iff_ne, ne_eq, Bool.not_not, U.toProp_bool, U.toBool_bool, i64lo, i64hi, U.toInt_int, U.toInts_ints, U.toBytes_bytes, U.toRows_rows, U.toMap_amap, Int.toNat_zero, Nat.reduceEqDiff, reduceIte, propB_iff, leB_iff, ltB_iff, U.int.injEq, U.bool.injEq, U.bytes.injEq, U.ints.injEq, U.rows.injEq]
  intro j1 j2 j3 j4 p p0
  refine ⟨trivial, fun _ => ⟨fun _ => ⟨fun h1 => ⟨fun h2 => ⟨fun _ => ⟨?_, trivial⟩, trivial⟩, fun h2 m m0 r r0 c c0 => ⟨rfl, csNew_held _, csNew_good h1 h2, rfl, trivial, fun _ a a0 b b0 => ⟨tell_new h1 h2, cnt_new _, rfl, trivial⟩⟩⟩, fun h1 => ⟨trivial, fun _ => trivial⟩⟩, trivial⟩⟩
  show U.bool true = U.bool (decide (4096 < (ρ 0).toInt))
  rw [decide_eq_true h2]
end
end Go.Proofs.Ytlcfjjjdhdfbdaa
