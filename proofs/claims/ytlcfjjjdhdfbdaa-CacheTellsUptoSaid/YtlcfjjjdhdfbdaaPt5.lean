/- A cache: Unpin. -/
import Derived.Test.YtlcfjjjdhdfbdaaPt4
import Derived.Shelf.SlIterI.Sorted
import Derived.Shelf.SortM.Plain
import Derived.Shelf.SortM.SortNone
import Derived.Ground.GgzProg
import Derived.Ground.SlgmProg
import Derived.Test.YtlcfjjjdhdfbdaaProg
set_option linter.unusedSimpArgs false
set_option linter.unusedVariables false
namespace Go.Proofs.Ytlcfjjjdhdfbdaa
noncomputable section
open Go.Eng
/-- 0 the cache; 1 its device; 2 how it stands; 3 the page. -/
def unpCtr : Ctr := ⟨[.int, .int, .g, .int], [.one (.ptr (ai 0) 0), .one (.int .i64 (ai 3))], [csC (ai 0) (ai 1) (gA 2)], [usB 288 (gA 2) z0 z0], [], .one (.int .i64 (usI 290 (gA 2) (ai 3) z0)), [csC (ai 0) (ai 1) (usG 289 (gA 2) (ai 3) z0)], []⟩
def unpCx : Cx := { specs := [], anns := [(11, [(1, .ghost unCsC [.tmp 0]), (1, .ghost ndRC []), (2, .split (.f2 141 (mA 7) (ai 3))), (2, .iff (.f2 141 (mA 7) (ai 3))), (2, .ghost opFC [.tmp 5]), (3, .iff (.f2 141 (mA 7) (ai 3))), (3, .ghost rdFC [.tmp 5]), (500004, .ghost shFC [.tmp 5]), (999999, .ghost foKC [.tmp 0])])] }
-- BEGIN VC unp
def unpVc : VC := (.imp (.us .bool 288 (.at .g 2) (.int 0) (.int 0) (.int 0)) (.all 4 .int (.all 5 .int (.all 6 .rows (.all 7 .amap (.imp (.us .bool 251 (.at .amap 7)
    (.at .rows 6) (.at .g 2) (.int 0)) (.imp (.us .bool 268 (.at .g 2) (.int 0) (.int 0) (.int 0)) (.imp (.f2 45 (.f1 32 (.at .rows 6)) (.us .int 256
    (.at .g 2) (.int 0) (.int 0) (.int 0))) (.imp (.f2 47 (.int 0) (.at .int 4)) (.imp (.us .bool 246 (.at .int 5) (.us .ints 242 (.at .rows 6) (.int
    0) (.int 0) (.int 0)) (.int 0) (.int 0)) (.imp (.us .bool 249 (.at .int 5) (.us .ints 242 (.at .rows 6) (.int 0) (.int 0) (.int 0)) (.int 0) (.int
    0)) (.and (.imp (.f2 141 (.at .amap 7) (.at .int 3)) (.need (.f2 46 (.us .int 250 (.at .rows 6) (.f3 140 (.int (-(0 + 1))) (.at .amap 7) (.at .int
    3)) (.int 0) (.int 0)) (.f1 32 (.at .rows 6))) (.imp (.f2 47 (.f1 31 (.us .bytes 253 (.at .g 2) (.us .int 250 (.at .rows 6) (.f3 140 (.int (-(0 +
    1))) (.at .amap 7) (.at .int 3)) (.int 0) (.int 0)) (.int 0) (.int 0))) (.f3 112 (.at .rows 6) (.us .int 250 (.at .rows 6) (.f3 140 (.int (-(0 +
    1))) (.at .amap 7) (.at .int 3)) (.int 0) (.int 0)) (.int 2))) (.imp (.f2 50 (.f2 47 (.int 0) (.f3 112 (.at .rows 6) (.us .int 250 (.at .rows 6)
    (.f3 140 (.int (-(0 + 1))) (.at .amap 7) (.at .int 3)) (.int 0) (.int 0)) (.int 1))) (.f2 45 (.f1 31 (.us .bytes 253 (.at .g 2) (.us .int 250 (.at
    .rows 6) (.f3 140 (.int (-(0 + 1))) (.at .amap 7) (.at .int 3)) (.int 0) (.int 0)) (.int 0) (.int 0))) (.int 0))) (.and (.imp (.f1 2 (.f1 2 (.f2
    141 (.at .amap 7) (.at .int 3)))) (.and (.imp (.f2 45 (.us .int 255 (.at .g 2) (.us .int 250 (.at .rows 6) (.f3 140 (.int (-(0 + 1))) (.at .amap 7)
    (.at .int 3)) (.int 0) (.int 0)) (.int 0) (.int 0)) (.int 0)) (.need (.f2 47 (.int 0) (.us .int 250 (.at .rows 6) (.f3 140 (.int (-(0 + 1))) (.at
    .amap 7) (.at .int 3)) (.int 0) (.int 0))) (.need (.f2 45 (.f3 140 (.int (-(0 + 1))) (.at .amap 7) (.at .int 3)) (.f3 112 (.at .rows 6) (.us .int
    250 (.at .rows 6) (.f3 140 (.int (-(0 + 1))) (.at .amap 7) (.at .int 3)) (.int 0) (.int 0)) (.int 0))) (.need (.f2 155 (.us .ints 242 (.at .rows 6)
    (.int 0) (.int 0) (.int 0)) (.us .ints 242 (.at .rows 6) (.int 0) (.int 0) (.int 0))) (.need (.us .bool 268 (.us .g 267 (.at .g 2) (.us .int 258
    (.at .g 2) (.int 0) (.int 0) (.int 0)) (.us .int 259 (.at .g 2) (.int 0) (.int 0) (.int 0)) (.us .int 260 (.at .g 2) (.int 0) (.int 0) (.int 0)))
    (.int 0) (.int 0) (.int 0)) (.need (.f2 155 (.us .g 289 (.at .g 2) (.at .int 3) (.int 0) (.int 0)) (.us .g 267 (.at .g 2) (.us .int 258 (.at .g 2)
    (.int 0) (.int 0) (.int 0)) (.us .int 259 (.at .g 2) (.int 0) (.int 0) (.int 0)) (.us .int 260 (.at .g 2) (.int 0) (.int 0) (.int 0)))) (.need (.f2
    45 (.us .int 290 (.at .g 2) (.at .int 3) (.int 0) (.int 0)) (.int 41)) .tt))))))) (.imp (.f1 2 (.f2 45 (.us .int 255 (.at .g 2) (.us .int 250 (.at
    .rows 6) (.f3 140 (.int (-(0 + 1))) (.at .amap 7) (.at .int 3)) (.int 0) (.int 0)) (.int 0) (.int 0)) (.int 0))) (.need (.f1 23 (.f2 40 (.us .int
    255 (.at .g 2) (.us .int 250 (.at .rows 6) (.f3 140 (.int (-(0 + 1))) (.at .amap 7) (.at .int 3)) (.int 0) (.int 0)) (.int 0) (.int 0)) (.int (-(0
    + 1))))) (.need (.f2 47 (.int 0) (.us .int 250 (.at .rows 6) (.f3 140 (.int (-(0 + 1))) (.at .amap 7) (.at .int 3)) (.int 0) (.int 0))) (.need (.f2
    45 (.us .int 252 (.at .g 2) (.us .int 250 (.at .rows 6) (.f3 140 (.int (-(0 + 1))) (.at .amap 7) (.at .int 3)) (.int 0) (.int 0)) (.int 0) (.int
    0)) (.us .int 252 (.at .g 2) (.us .int 250 (.at .rows 6) (.f3 140 (.int (-(0 + 1))) (.at .amap 7) (.at .int 3)) (.int 0) (.int 0)) (.int 0) (.int
    0))) (.need (.f2 47 (.f1 31 (.us .bytes 253 (.at .g 2) (.us .int 250 (.at .rows 6) (.f3 140 (.int (-(0 + 1))) (.at .amap 7) (.at .int 3)) (.int 0)
    (.int 0)) (.int 0) (.int 0))) (.f1 31 (.us .bytes 253 (.at .g 2) (.us .int 250 (.at .rows 6) (.f3 140 (.int (-(0 + 1))) (.at .amap 7) (.at .int 3))
    (.int 0) (.int 0)) (.int 0) (.int 0)))) (.need (.f2 155 (.us .ints 242 (.at .rows 6) (.int 0) (.int 0) (.int 0)) (.us .ints 242 (.us .rows 269 (.at
    .rows 6) (.us .int 250 (.at .rows 6) (.f3 140 (.int (-(0 + 1))) (.at .amap 7) (.at .int 3)) (.int 0) (.int 0)) (.f2 122 (.f3 140 (.int (-(0 + 1)))
    (.at .amap 7) (.at .int 3)) (.f2 122 (.f3 112 (.at .rows 6) (.us .int 250 (.at .rows 6) (.f3 140 (.int (-(0 + 1))) (.at .amap 7) (.at .int 3))
    (.int 0) (.int 0)) (.int 1)) (.f2 122 (.f3 112 (.at .rows 6) (.us .int 250 (.at .rows 6) (.f3 140 (.int (-(0 + 1))) (.at .amap 7) (.at .int 3))
    (.int 0) (.int 0)) (.int 2)) (.f1 152 (.int 0))))) (.int 0)) (.int 0) (.int 0) (.int 0))) (.need (.us .bool 251 (.at .amap 7) (.us .rows 269 (.at
    .rows 6) (.us .int 250 (.at .rows 6) (.f3 140 (.int (-(0 + 1))) (.at .amap 7) (.at .int 3)) (.int 0) (.int 0)) (.f2 122 (.f3 140 (.int (-(0 + 1)))
    (.at .amap 7) (.at .int 3)) (.f2 122 (.f3 112 (.at .rows 6) (.us .int 250 (.at .rows 6) (.f3 140 (.int (-(0 + 1))) (.at .amap 7) (.at .int 3))
    (.int 0) (.int 0)) (.int 1)) (.f2 122 (.f3 112 (.at .rows 6) (.us .int 250 (.at .rows 6) (.f3 140 (.int (-(0 + 1))) (.at .amap 7) (.at .int 3))
    (.int 0) (.int 0)) (.int 2)) (.f1 152 (.int 0))))) (.int 0)) (.us .g 266 (.at .g 2) (.us .int 250 (.at .rows 6) (.f3 140 (.int (-(0 + 1))) (.at
    .amap 7) (.at .int 3)) (.int 0) (.int 0)) (.f2 114 (.us .bytes 253 (.at .g 2) (.us .int 250 (.at .rows 6) (.f3 140 (.int (-(0 + 1))) (.at .amap 7)
    (.at .int 3)) (.int 0) (.int 0)) (.int 0) (.int 0)) (.f1 31 (.us .bytes 253 (.at .g 2) (.us .int 250 (.at .rows 6) (.f3 140 (.int (-(0 + 1))) (.at
    .amap 7) (.at .int 3)) (.int 0) (.int 0)) (.int 0) (.int 0)))) (.f2 122 (.f1 3 (.us .bool 254 (.at .g 2) (.us .int 250 (.at .rows 6) (.f3 140 (.int
    (-(0 + 1))) (.at .amap 7) (.at .int 3)) (.int 0) (.int 0)) (.int 0) (.int 0))) (.f2 122 (.f2 40 (.us .int 255 (.at .g 2) (.us .int 250 (.at .rows
    6) (.f3 140 (.int (-(0 + 1))) (.at .amap 7) (.at .int 3)) (.int 0) (.int 0)) (.int 0) (.int 0)) (.int (-(0 + 1)))) (.f1 152 (.int 0))))) (.int 0))
    (.need (.us .bool 268 (.us .g 267 (.us .g 266 (.at .g 2) (.us .int 250 (.at .rows 6) (.f3 140 (.int (-(0 + 1))) (.at .amap 7) (.at .int 3)) (.int
    0) (.int 0)) (.f2 114 (.us .bytes 253 (.at .g 2) (.us .int 250 (.at .rows 6) (.f3 140 (.int (-(0 + 1))) (.at .amap 7) (.at .int 3)) (.int 0) (.int
    0)) (.int 0) (.int 0)) (.f1 31 (.us .bytes 253 (.at .g 2) (.us .int 250 (.at .rows 6) (.f3 140 (.int (-(0 + 1))) (.at .amap 7) (.at .int 3)) (.int
    0) (.int 0)) (.int 0) (.int 0)))) (.f2 122 (.f1 3 (.us .bool 254 (.at .g 2) (.us .int 250 (.at .rows 6) (.f3 140 (.int (-(0 + 1))) (.at .amap 7)
    (.at .int 3)) (.int 0) (.int 0)) (.int 0) (.int 0))) (.f2 122 (.f2 40 (.us .int 255 (.at .g 2) (.us .int 250 (.at .rows 6) (.f3 140 (.int (-(0 +
    1))) (.at .amap 7) (.at .int 3)) (.int 0) (.int 0)) (.int 0) (.int 0)) (.int (-(0 + 1)))) (.f1 152 (.int 0))))) (.us .int 258 (.at .g 2) (.int 0)
    (.int 0) (.int 0)) (.us .int 259 (.at .g 2) (.int 0) (.int 0) (.int 0)) (.us .int 260 (.at .g 2) (.int 0) (.int 0) (.int 0))) (.int 0) (.int 0)
    (.int 0)) (.need (.f2 45 (.us .int 257 (.us .g 266 (.at .g 2) (.us .int 250 (.at .rows 6) (.f3 140 (.int (-(0 + 1))) (.at .amap 7) (.at .int 3))
    (.int 0) (.int 0)) (.f2 114 (.us .bytes 253 (.at .g 2) (.us .int 250 (.at .rows 6) (.f3 140 (.int (-(0 + 1))) (.at .amap 7) (.at .int 3)) (.int 0)
    (.int 0)) (.int 0) (.int 0)) (.f1 31 (.us .bytes 253 (.at .g 2) (.us .int 250 (.at .rows 6) (.f3 140 (.int (-(0 + 1))) (.at .amap 7) (.at .int 3))
    (.int 0) (.int 0)) (.int 0) (.int 0)))) (.f2 122 (.f1 3 (.us .bool 254 (.at .g 2) (.us .int 250 (.at .rows 6) (.f3 140 (.int (-(0 + 1))) (.at .amap
    7) (.at .int 3)) (.int 0) (.int 0)) (.int 0) (.int 0))) (.f2 122 (.f2 40 (.us .int 255 (.at .g 2) (.us .int 250 (.at .rows 6) (.f3 140 (.int (-(0 +
    1))) (.at .amap 7) (.at .int 3)) (.int 0) (.int 0)) (.int 0) (.int 0)) (.int (-(0 + 1)))) (.f1 152 (.int 0))))) (.int 0) (.int 0) (.int 0)) (.us
    .int 257 (.at .g 2) (.int 0) (.int 0) (.int 0))) (.need (.f2 155 (.us .g 289 (.at .g 2) (.at .int 3) (.int 0) (.int 0)) (.us .g 267 (.us .g 266
    (.at .g 2) (.us .int 250 (.at .rows 6) (.f3 140 (.int (-(0 + 1))) (.at .amap 7) (.at .int 3)) (.int 0) (.int 0)) (.f2 114 (.us .bytes 253 (.at .g
    2) (.us .int 250 (.at .rows 6) (.f3 140 (.int (-(0 + 1))) (.at .amap 7) (.at .int 3)) (.int 0) (.int 0)) (.int 0) (.int 0)) (.f1 31 (.us .bytes 253
    (.at .g 2) (.us .int 250 (.at .rows 6) (.f3 140 (.int (-(0 + 1))) (.at .amap 7) (.at .int 3)) (.int 0) (.int 0)) (.int 0) (.int 0)))) (.f2 122 (.f1
    3 (.us .bool 254 (.at .g 2) (.us .int 250 (.at .rows 6) (.f3 140 (.int (-(0 + 1))) (.at .amap 7) (.at .int 3)) (.int 0) (.int 0)) (.int 0) (.int
    0))) (.f2 122 (.f2 40 (.us .int 255 (.at .g 2) (.us .int 250 (.at .rows 6) (.f3 140 (.int (-(0 + 1))) (.at .amap 7) (.at .int 3)) (.int 0) (.int
    0)) (.int 0) (.int 0)) (.int (-(0 + 1)))) (.f1 152 (.int 0))))) (.us .int 258 (.at .g 2) (.int 0) (.int 0) (.int 0)) (.us .int 259 (.at .g 2) (.int
    0) (.int 0) (.int 0)) (.us .int 260 (.at .g 2) (.int 0) (.int 0) (.int 0)))) (.need (.f2 45 (.us .int 290 (.at .g 2) (.at .int 3) (.int 0) (.int
    0)) (.int 0)) .tt))))))))))))) (.imp (.f1 2 (.f2 141 (.at .amap 7) (.at .int 3))) (.need (.f2 47 (.int 0) (.us .int 250 (.at .rows 6) (.f3 140
    (.int (-(0 + 1))) (.at .amap 7) (.at .int 3)) (.int 0) (.int 0))) (.need (.f2 45 (.f3 140 (.int (-(0 + 1))) (.at .amap 7) (.at .int 3)) (.f3 112
    (.at .rows 6) (.us .int 250 (.at .rows 6) (.f3 140 (.int (-(0 + 1))) (.at .amap 7) (.at .int 3)) (.int 0) (.int 0)) (.int 0))) (.need (.f2 155 (.us
    .ints 242 (.at .rows 6) (.int 0) (.int 0) (.int 0)) (.us .ints 242 (.at .rows 6) (.int 0) (.int 0) (.int 0))) (.need (.us .bool 268 (.us .g 267
    (.at .g 2) (.us .int 258 (.at .g 2) (.int 0) (.int 0) (.int 0)) (.us .int 259 (.at .g 2) (.int 0) (.int 0) (.int 0)) (.us .int 260 (.at .g 2) (.int
    0) (.int 0) (.int 0))) (.int 0) (.int 0) (.int 0)) (.need (.f2 155 (.us .g 289 (.at .g 2) (.at .int 3) (.int 0) (.int 0)) (.us .g 267 (.at .g 2)
    (.us .int 258 (.at .g 2) (.int 0) (.int 0) (.int 0)) (.us .int 259 (.at .g 2) (.int 0) (.int 0) (.int 0)) (.us .int 260 (.at .g 2) (.int 0) (.int
    0) (.int 0)))) (.need (.f2 45 (.us .int 290 (.at .g 2) (.at .int 3) (.int 0) (.int 0)) (.int 41)) .tt)))))))))))) (.imp (.f1 2 (.f2 141 (.at .amap
    7) (.at .int 3))) (.and .tt (.imp (.f1 2 (.f2 141 (.at .amap 7) (.at .int 3))) (.need (.f2 155 (.us .ints 242 (.at .rows 6) (.int 0) (.int 0) (.int
    0)) (.us .ints 242 (.at .rows 6) (.int 0) (.int 0) (.int 0))) (.need (.us .bool 268 (.us .g 267 (.at .g 2) (.us .int 258 (.at .g 2) (.int 0) (.int
    0) (.int 0)) (.us .int 259 (.at .g 2) (.int 0) (.int 0) (.int 0)) (.us .int 260 (.at .g 2) (.int 0) (.int 0) (.int 0))) (.int 0) (.int 0) (.int 0))
    (.need (.f2 155 (.us .g 289 (.at .g 2) (.at .int 3) (.int 0) (.int 0)) (.us .g 267 (.at .g 2) (.us .int 258 (.at .g 2) (.int 0) (.int 0) (.int 0))
    (.us .int 259 (.at .g 2) (.int 0) (.int 0) (.int 0)) (.us .int 260 (.at .g 2) (.int 0) (.int 0) (.int 0)))) (.need (.f2 45 (.us .int 290 (.at .g 2)
    (.at .int 3) (.int 0) (.int 0)) (.int 41)) .tt)))))))))))))))))))
theorem unp_vc : vcOf Try.prog unpCx 12 11 unpCtr = unpVc := by kernel_rfl
-- END VC unp
-- PROOFS
theorem putF_mk {c : Cs} {i : Int} {b : List UInt8} {dt : Bool} {p : Int} : c.putF i b (ap2 122 (ap1 3 (U.bool dt)) (ap2 122 (U.int p) (U.ints [])) : U GG).toInts = c.put i ⟨(c.at' i).n, b, dt, p⟩ := by cases dt <;> rfl
theorem setR_mk {R : List (List Int)} {i x y z : Int} : setR R i (ap2 122 (U.int x) (ap2 122 (U.int y) (ap2 122 (U.int z) (U.ints []))) : U GG).toInts = setR R i [x, y, z] := rfl
theorem at_mem {c : Cs} {i : Nat} (h : i < c.fr.length) : c.at' (i : Nat) ∈ c.fr := by
  show c.fr.getD i fr0 ∈ c.fr
  rw [List.getD_eq_getElem?_getD, List.getElem?_eq_getElem h]; exact List.getElem_mem _
theorem setR_map {R : List (List Int)} {i : Nat} {x y z : Int} (h : i < R.length) (hr : x = g0 (R.getD i [])) : (setR R (i : Nat) [x, y, z]).map g0 = R.map g0 := by
  have e := split_at (d := []) h
  conv => rhs; rw [e]
  show (R.take i ++ [x, y, z] :: R.drop (i + 1)).map g0 = _
  have hr : g0 [x, y, z] = g0 (R.getD i []) := hr
  simp only [List.map_append, List.map_cons, hr, List.map_nil]
  rw [List.append_cons]; simp
theorem put_held {m : List (Int × Int)} {R : List (List Int)} {c : Cs} (h : heldOk m R c.fr) {i : Nat} (hi : i < c.fr.length) {f : Fr} {x y z : Int} (hf : f.n = (c.at' (i : Nat)).n) (hr : x = g0 (R.getD i [])) : heldOk m (setR R (i : Nat) [x, y, z]) (c.put (i : Nat) f).fr := h.put hi hf hr
theorem GoodC.put {c : Cs} (h : GoodC c) {i : Nat} (hi : i < c.fr.length) {f : Fr} (hn : f.n = (c.at' (i : Nat)).n) (hp : 0 ≤ f.pins) (hb : f.b.length ≤ 65536) : GoodC (c.put (i : Nat) f) := by
  have hF := split_at (d := fr0) hi
  have hsub : ∀ g ∈ (c.put (i : Nat) f).fr, g = f ∨ g ∈ c.fr := by
    intro g hg
    have hg : g ∈ c.fr.take i ++ f :: c.fr.drop (i + 1) := hg
    rcases List.mem_append.1 hg with q | q
    · exact .inr (List.mem_of_mem_take q)
    · rcases List.mem_cons.1 q with q | q
      · exact .inl q
      · exact .inr (List.mem_of_mem_drop q)
  have hl := h.len
  refine ⟨h.frames, ?_, ?_, fun g hg => ?_, h.cnt, fun g hg => ?_⟩
  · show ((c.fr.take i ++ f :: c.fr.drop (i + 1)).length : Int) ≤ c.frames
    simp only [List.length_append, List.length_take, List.length_drop, List.length_cons]; omega
  · show ((c.fr.take i ++ f :: c.fr.drop (i + 1)).map (·.n)).Nodup
    have e : (c.fr.take i ++ f :: c.fr.drop (i + 1)).map (·.n) = c.fr.map (·.n) := by
      conv => rhs; rw [hF]
      have hn : f.n = (c.fr.getD i fr0).n := hn
      simp [hn]
    rw [e]; exact h.nod
  · rcases hsub g hg with rfl | q
    · exact hp
    · exact h.pins g q
  · rcases hsub g hg with rfl | q
    · exact hb
    · exact h.b g q
theorem unp_ok (S : Sig GG) (hS : CsSig S) : CtrOk S Try.prog 11 unpCtr := by
  refine vcOf_sound S (C := unpCx) (fuel := 12) (cx_of trivial ⟨⟨⟨by decide, unCs_gh S hS⟩, ⟨by decide, ndR_gh S hS.rg⟩, trivial, trivial, ⟨by decide, opF_gh S hS⟩, trivial, ⟨by decide, rdF_gh S hS⟩, ⟨by decide, shF_gh S hS⟩, ⟨by decide, foK_gh S hS⟩, trivial⟩, trivial⟩ trivial) fun ρ => ?_
  rw [unp_vc]
  simp only [unpVc, hS.u287, hS.u288, hS.u289, hS.u290, co_g, csOf_g, hS.rg.u240, hS.rg.u241, hS.rg.u242, hS.rg.u243, hS.rg.u244, hS.rg.u245, hS.rg.u246, hS.rg.u247, hS.rg.u248, hS.rg.u249, hS.u250, hS.u251, hS.u252, hS.u253, hS.u254, hS.u255, hS.u256, hS.u257, hS.u258, hS.u259, hS.u260, hS.u261, hS.u262, hS.u263, hS.u264, hS.u265, hS.u266, hS.u267, hS.u268, hS.u269, hS.u270, hS.u271, hS.u272, hS.u273, hS.u274, VC.den, SX.den, co_int, co_bool, co_bytes, co_ints, co_rows, co_map, Env.upd, p155, p153, p23, p45, p46, p47, p50, b46, b47, t46, t47, p2_45, ap1_2, ap1_30, ap1_31, ap1_32, ap1_152, ap1_153, ap1_154, ap2_40, ap2_41, ap2_42, ap2_43, ap2_45, p48_b, ap2_51i, ap2_52i, ap2_110, ap2_111, ap2_113, ap2_114, ap2_115, ap2_117, ap2_120, ap2_126, ap2_141, ap3_112, ap3_140, beq_iff_eq, Bool.not_eq_true', beq_eq_false_iff_ne, ne_eq, Bool.not_not, U.toProp_bool, U.toBool_bool, i64lo, i64hi, U.toInt_int, U.toInts_ints, U.toBytes_bytes, U.toRows_rows, U.toMap_amap, Int.toNat_zero, Nat.reduceEqDiff, reduceIte, propB_iff, leB_iff, ltB_iff, U.int.injEq, U.bool.injEq, U.bytes.injEq, U.ints.injEq, U.rows.injEq]
  generalize csOf (U.co S .g (ρ 2)) = c
  generalize (ρ 3).toInt = n
  intro hp0 hm H R m hh hg hlen hpos hnd hp
  have hhas := hh.has n
  refine ⟨fun hit => ?_, fun nohit => ⟨trivial, fun _ => ?_⟩⟩
  · have hj : c.idx n < c.fr.length := hhas.1 hit
    have hlen' := hh.1
    have hl : mget (-(0 + 1)) m n = g0 (R.getD (c.idx n) []) := by have := hh.get (d := -(0 + 1)) hj; rwa [Cs.idx_n hj] at this
    have hr : rowI (mget (-(0 + 1)) m n) R = c.idx n := by
      rw [hl, rowI_idx, ← map_getD R _ (by omega)]; exact idx_nod (List.nodup_cons.1 hnd).2 (by rw [List.length_map]; omega)
    rw [hl] at hr
    simp only [hl, hr, putF_mk, setR_mk, Int.toNat_natCast, List.take_length]
    have hat : (c.at' (c.idx n : Nat)) ∈ c.fr := at_mem hj
    have hpn := hg.pins _ hat
    have hC0 : (c.at' (c.idx n : Nat)).pins = 0 → c.unpC n = c ∧ c.unpE n = 41 := fun h => ⟨if_neg (fun q => q.2 h), if_neg (fun q => q.2 h)⟩
    refine ⟨by omega, fun _ _ => ⟨fun _ => ⟨fun h0 => ?_, fun h0 => ?_⟩, fun h => absurd hit (by rw [h]; decide)⟩⟩
    · obtain ⟨e1, e2⟩ := hC0 h0
      simp only [e1, e2]
      exact ⟨by omega, rfl, trivial, hg, by first | trivial | rfl, by first | trivial | rfl, trivial⟩
    · have e1 : c.unpC n = c.pinAt (c.idx n : Nat) (-1) := if_pos ⟨hj, h0⟩
      have e2 : c.unpE n = 0 := if_pos ⟨hj, h0⟩
      have hpb := hp0 _ hat
      simp only [e1, e2]
      refine ⟨by omega, by omega, trivial, Int.le_refl _, (setR_map (show c.idx n < R.length by omega) rfl).symm, put_held hh hj rfl rfl, hg.put hj rfl (show 0 ≤ (c.at' (c.idx n : Nat)).pins + -(0 + 1) by omega) (show (c.at' (c.idx n : Nat)).b.length ≤ 65536 from hg.b _ hat), rfl, rfl, by first | trivial | rfl, trivial⟩
  · have hno : ¬ c.hit n := fun h => by rw [hhas.2 h] at nohit; cases nohit
    have hC : c.unpC n = c := if_neg (fun h => hno h.1)
    have hE : c.unpE n = 41 := if_neg (fun h => hno h.1)
    simp only [hC, hE]
    exact ⟨by first | trivial | rfl, hg, by first | trivial | rfl, by first | trivial | rfl, trivial⟩
end
end Go.Proofs.Ytlcfjjjdhdfbdaa

/- A cache: Pin. -/
set_option linter.unusedSimpArgs false
set_option linter.unusedVariables false
namespace Go.Proofs.Ytlcfjjjdhdfbdaa
noncomputable section
open Go.Eng
def pinS : List (Nat × List Ctr) := (18, [holdCtr]) :: holdS
/-- 0 the cache; 1 its device; 2, 3 how they stand; 4 the page. -/
def pinCtr : Ctr := ⟨[.int, .int, .g, .g, .int], [.one (.ptr (ai 0) 0), .one (.int .i64 (ai 4))], [csC (ai 0) (ai 1) (gA 2), plC (ai 1) (gA 3)], holdCtr.reqs ++ [usB 288 (gA 2) z0 z0], [],
  .one (.int .i64 holdEX), [csC (ai 0) (ai 1) (usG 287 (gA 2) (gA 3) (ai 4)), plC (ai 1) (usG 284 (gA 2) (gA 3) (ai 4))], []⟩
def pinCx : Cx := { specs := pinS, anns := [(10, [(3, .ghost opFC [.tmp 5]), (500003, .ghost shFC [.tmp 5]), (999999, .ghost foKC [.tmp 0])])] }
-- BEGIN VC pin
def pinVc : VC := (.imp (.f2 47 (.us .int 206 (.at .g 3) (.int 0) (.int 0) (.int 0)) (.int 4611686018427387904)) (.imp (.f2 47 (.us .int 211 (.at .g 3) (.int 0) (.int 0)
    (.int 0)) (.int 1099511627776)) (.imp (.f2 47 (.f1 30 (.us .ints 209 (.at .g 3) (.int 0) (.int 0) (.int 0))) (.int 140737488355328)) (.imp (.f2 47
    (.us .int 205 (.at .g 3) (.int 0) (.int 0) (.int 0)) (.int 4611686018427387904)) (.imp (.f2 47 (.us .int 258 (.at .g 2) (.int 0) (.int 0) (.int 0))
    (.int 4611686018427387904)) (.imp (.f2 47 (.us .int 259 (.at .g 2) (.int 0) (.int 0) (.int 0)) (.int 4611686018427387904)) (.imp (.f2 47 (.us .int
    260 (.at .g 2) (.int 0) (.int 0) (.int 0)) (.int 4611686018427387904)) (.imp (.us .bool 288 (.at .g 2) (.int 0) (.int 0) (.int 0)) (.all 5 .int
    (.all 6 .int (.all 7 .rows (.all 8 .amap (.all 9 .int (.imp (.us .bool 251 (.at .amap 8) (.at .rows 7) (.us .g 283 (.at .g 2) (.at .g 3) (.at .int
    4) (.int 0)) (.int 0)) (.imp (.us .bool 268 (.us .g 283 (.at .g 2) (.at .g 3) (.at .int 4) (.int 0)) (.int 0) (.int 0) (.int 0)) (.imp (.us .bool
    246 (.at .int 6) (.us .ints 242 (.at .rows 7) (.int 0) (.int 0) (.int 0)) (.int 0) (.int 0)) (.imp (.f2 50 (.f1 2 (.f2 45 (.us .int 285 (.at .g 2)
    (.at .g 3) (.at .int 4) (.int 0)) (.int 0))) (.f2 45 (.at .int 9) (.f3 112 (.at .rows 7) (.f2 40 (.f1 32 (.at .rows 7)) (.int (-(0 + 1)))) (.int
    0)))) (.and (.imp (.f2 45 (.us .int 285 (.at .g 2) (.at .g 3) (.at .int 4) (.int 0)) (.int 0)) (.need (.f2 46 (.us .int 250 (.at .rows 7) (.at .int
    9) (.int 0) (.int 0)) (.f1 32 (.at .rows 7))) (.imp (.f2 47 (.f1 31 (.us .bytes 253 (.us .g 283 (.at .g 2) (.at .g 3) (.at .int 4) (.int 0)) (.us
    .int 250 (.at .rows 7) (.at .int 9) (.int 0) (.int 0)) (.int 0) (.int 0))) (.f3 112 (.at .rows 7) (.us .int 250 (.at .rows 7) (.at .int 9) (.int 0)
    (.int 0)) (.int 2))) (.imp (.f2 50 (.f2 47 (.int 0) (.f3 112 (.at .rows 7) (.us .int 250 (.at .rows 7) (.at .int 9) (.int 0) (.int 0)) (.int 1)))
    (.f2 45 (.f1 31 (.us .bytes 253 (.us .g 283 (.at .g 2) (.at .g 3) (.at .int 4) (.int 0)) (.us .int 250 (.at .rows 7) (.at .int 9) (.int 0) (.int
    0)) (.int 0) (.int 0))) (.int 0))) (.need (.f1 23 (.f2 40 (.us .int 255 (.us .g 283 (.at .g 2) (.at .g 3) (.at .int 4) (.int 0)) (.us .int 250 (.at
    .rows 7) (.at .int 9) (.int 0) (.int 0)) (.int 0) (.int 0)) (.int 1))) (.need (.f2 47 (.int 0) (.us .int 250 (.at .rows 7) (.at .int 9) (.int 0)
    (.int 0))) (.need (.f2 45 (.us .int 252 (.us .g 283 (.at .g 2) (.at .g 3) (.at .int 4) (.int 0)) (.us .int 250 (.at .rows 7) (.at .int 9) (.int 0)
    (.int 0)) (.int 0) (.int 0)) (.us .int 252 (.us .g 283 (.at .g 2) (.at .g 3) (.at .int 4) (.int 0)) (.us .int 250 (.at .rows 7) (.at .int 9) (.int
    0) (.int 0)) (.int 0) (.int 0))) (.need (.f2 47 (.f1 31 (.us .bytes 253 (.us .g 283 (.at .g 2) (.at .g 3) (.at .int 4) (.int 0)) (.us .int 250 (.at
    .rows 7) (.at .int 9) (.int 0) (.int 0)) (.int 0) (.int 0))) (.f1 31 (.us .bytes 253 (.us .g 283 (.at .g 2) (.at .g 3) (.at .int 4) (.int 0)) (.us
    .int 250 (.at .rows 7) (.at .int 9) (.int 0) (.int 0)) (.int 0) (.int 0)))) (.need (.f2 155 (.us .ints 242 (.at .rows 7) (.int 0) (.int 0) (.int
    0)) (.us .ints 242 (.us .rows 269 (.at .rows 7) (.us .int 250 (.at .rows 7) (.at .int 9) (.int 0) (.int 0)) (.f2 122 (.at .int 9) (.f2 122 (.f3 112
    (.at .rows 7) (.us .int 250 (.at .rows 7) (.at .int 9) (.int 0) (.int 0)) (.int 1)) (.f2 122 (.f3 112 (.at .rows 7) (.us .int 250 (.at .rows 7)
    (.at .int 9) (.int 0) (.int 0)) (.int 2)) (.f1 152 (.int 0))))) (.int 0)) (.int 0) (.int 0) (.int 0))) (.need (.us .bool 251 (.at .amap 8) (.us
    .rows 269 (.at .rows 7) (.us .int 250 (.at .rows 7) (.at .int 9) (.int 0) (.int 0)) (.f2 122 (.at .int 9) (.f2 122 (.f3 112 (.at .rows 7) (.us .int
    250 (.at .rows 7) (.at .int 9) (.int 0) (.int 0)) (.int 1)) (.f2 122 (.f3 112 (.at .rows 7) (.us .int 250 (.at .rows 7) (.at .int 9) (.int 0) (.int
    0)) (.int 2)) (.f1 152 (.int 0))))) (.int 0)) (.us .g 266 (.us .g 283 (.at .g 2) (.at .g 3) (.at .int 4) (.int 0)) (.us .int 250 (.at .rows 7) (.at
    .int 9) (.int 0) (.int 0)) (.f2 114 (.us .bytes 253 (.us .g 283 (.at .g 2) (.at .g 3) (.at .int 4) (.int 0)) (.us .int 250 (.at .rows 7) (.at .int
    9) (.int 0) (.int 0)) (.int 0) (.int 0)) (.f1 31 (.us .bytes 253 (.us .g 283 (.at .g 2) (.at .g 3) (.at .int 4) (.int 0)) (.us .int 250 (.at .rows
    7) (.at .int 9) (.int 0) (.int 0)) (.int 0) (.int 0)))) (.f2 122 (.f1 3 (.us .bool 254 (.us .g 283 (.at .g 2) (.at .g 3) (.at .int 4) (.int 0))
    (.us .int 250 (.at .rows 7) (.at .int 9) (.int 0) (.int 0)) (.int 0) (.int 0))) (.f2 122 (.f2 40 (.us .int 255 (.us .g 283 (.at .g 2) (.at .g 3)
    (.at .int 4) (.int 0)) (.us .int 250 (.at .rows 7) (.at .int 9) (.int 0) (.int 0)) (.int 0) (.int 0)) (.int 1)) (.f1 152 (.int 0))))) (.int 0))
    (.need (.us .bool 268 (.us .g 267 (.us .g 266 (.us .g 283 (.at .g 2) (.at .g 3) (.at .int 4) (.int 0)) (.us .int 250 (.at .rows 7) (.at .int 9)
    (.int 0) (.int 0)) (.f2 114 (.us .bytes 253 (.us .g 283 (.at .g 2) (.at .g 3) (.at .int 4) (.int 0)) (.us .int 250 (.at .rows 7) (.at .int 9) (.int
    0) (.int 0)) (.int 0) (.int 0)) (.f1 31 (.us .bytes 253 (.us .g 283 (.at .g 2) (.at .g 3) (.at .int 4) (.int 0)) (.us .int 250 (.at .rows 7) (.at
    .int 9) (.int 0) (.int 0)) (.int 0) (.int 0)))) (.f2 122 (.f1 3 (.us .bool 254 (.us .g 283 (.at .g 2) (.at .g 3) (.at .int 4) (.int 0)) (.us .int
    250 (.at .rows 7) (.at .int 9) (.int 0) (.int 0)) (.int 0) (.int 0))) (.f2 122 (.f2 40 (.us .int 255 (.us .g 283 (.at .g 2) (.at .g 3) (.at .int 4)
    (.int 0)) (.us .int 250 (.at .rows 7) (.at .int 9) (.int 0) (.int 0)) (.int 0) (.int 0)) (.int 1)) (.f1 152 (.int 0))))) (.us .int 258 (.us .g 283
    (.at .g 2) (.at .g 3) (.at .int 4) (.int 0)) (.int 0) (.int 0) (.int 0)) (.us .int 259 (.us .g 283 (.at .g 2) (.at .g 3) (.at .int 4) (.int 0))
    (.int 0) (.int 0) (.int 0)) (.us .int 260 (.us .g 283 (.at .g 2) (.at .g 3) (.at .int 4) (.int 0)) (.int 0) (.int 0) (.int 0))) (.int 0) (.int 0)
    (.int 0)) (.need (.f2 45 (.us .int 257 (.us .g 266 (.us .g 283 (.at .g 2) (.at .g 3) (.at .int 4) (.int 0)) (.us .int 250 (.at .rows 7) (.at .int
    9) (.int 0) (.int 0)) (.f2 114 (.us .bytes 253 (.us .g 283 (.at .g 2) (.at .g 3) (.at .int 4) (.int 0)) (.us .int 250 (.at .rows 7) (.at .int 9)
    (.int 0) (.int 0)) (.int 0) (.int 0)) (.f1 31 (.us .bytes 253 (.us .g 283 (.at .g 2) (.at .g 3) (.at .int 4) (.int 0)) (.us .int 250 (.at .rows 7)
    (.at .int 9) (.int 0) (.int 0)) (.int 0) (.int 0)))) (.f2 122 (.f1 3 (.us .bool 254 (.us .g 283 (.at .g 2) (.at .g 3) (.at .int 4) (.int 0)) (.us
    .int 250 (.at .rows 7) (.at .int 9) (.int 0) (.int 0)) (.int 0) (.int 0))) (.f2 122 (.f2 40 (.us .int 255 (.us .g 283 (.at .g 2) (.at .g 3) (.at
    .int 4) (.int 0)) (.us .int 250 (.at .rows 7) (.at .int 9) (.int 0) (.int 0)) (.int 0) (.int 0)) (.int 1)) (.f1 152 (.int 0))))) (.int 0) (.int 0)
    (.int 0)) (.us .int 257 (.us .g 283 (.at .g 2) (.at .g 3) (.at .int 4) (.int 0)) (.int 0) (.int 0) (.int 0))) (.need (.f2 155 (.us .g 287 (.at .g
    2) (.at .g 3) (.at .int 4) (.int 0)) (.us .g 267 (.us .g 266 (.us .g 283 (.at .g 2) (.at .g 3) (.at .int 4) (.int 0)) (.us .int 250 (.at .rows 7)
    (.at .int 9) (.int 0) (.int 0)) (.f2 114 (.us .bytes 253 (.us .g 283 (.at .g 2) (.at .g 3) (.at .int 4) (.int 0)) (.us .int 250 (.at .rows 7) (.at
    .int 9) (.int 0) (.int 0)) (.int 0) (.int 0)) (.f1 31 (.us .bytes 253 (.us .g 283 (.at .g 2) (.at .g 3) (.at .int 4) (.int 0)) (.us .int 250 (.at
    .rows 7) (.at .int 9) (.int 0) (.int 0)) (.int 0) (.int 0)))) (.f2 122 (.f1 3 (.us .bool 254 (.us .g 283 (.at .g 2) (.at .g 3) (.at .int 4) (.int
    0)) (.us .int 250 (.at .rows 7) (.at .int 9) (.int 0) (.int 0)) (.int 0) (.int 0))) (.f2 122 (.f2 40 (.us .int 255 (.us .g 283 (.at .g 2) (.at .g
    3) (.at .int 4) (.int 0)) (.us .int 250 (.at .rows 7) (.at .int 9) (.int 0) (.int 0)) (.int 0) (.int 0)) (.int 1)) (.f1 152 (.int 0))))) (.us .int
    258 (.us .g 283 (.at .g 2) (.at .g 3) (.at .int 4) (.int 0)) (.int 0) (.int 0) (.int 0)) (.us .int 259 (.us .g 283 (.at .g 2) (.at .g 3) (.at .int
    4) (.int 0)) (.int 0) (.int 0) (.int 0)) (.us .int 260 (.us .g 283 (.at .g 2) (.at .g 3) (.at .int 4) (.int 0)) (.int 0) (.int 0) (.int 0))))
    .tt))))))))))))) (.imp (.f1 2 (.f2 45 (.us .int 285 (.at .g 2) (.at .g 3) (.at .int 4) (.int 0)) (.int 0))) (.need (.f2 155 (.us .ints 242 (.at
    .rows 7) (.int 0) (.int 0) (.int 0)) (.us .ints 242 (.at .rows 7) (.int 0) (.int 0) (.int 0))) (.need (.us .bool 268 (.us .g 267 (.us .g 283 (.at
    .g 2) (.at .g 3) (.at .int 4) (.int 0)) (.us .int 258 (.us .g 283 (.at .g 2) (.at .g 3) (.at .int 4) (.int 0)) (.int 0) (.int 0) (.int 0)) (.us
    .int 259 (.us .g 283 (.at .g 2) (.at .g 3) (.at .int 4) (.int 0)) (.int 0) (.int 0) (.int 0)) (.us .int 260 (.us .g 283 (.at .g 2) (.at .g 3) (.at
    .int 4) (.int 0)) (.int 0) (.int 0) (.int 0))) (.int 0) (.int 0) (.int 0)) (.need (.f2 155 (.us .g 287 (.at .g 2) (.at .g 3) (.at .int 4) (.int 0))
    (.us .g 267 (.us .g 283 (.at .g 2) (.at .g 3) (.at .int 4) (.int 0)) (.us .int 258 (.us .g 283 (.at .g 2) (.at .g 3) (.at .int 4) (.int 0)) (.int
    0) (.int 0) (.int 0)) (.us .int 259 (.us .g 283 (.at .g 2) (.at .g 3) (.at .int 4) (.int 0)) (.int 0) (.int 0) (.int 0)) (.us .int 260 (.us .g 283
    (.at .g 2) (.at .g 3) (.at .int 4) (.int 0)) (.int 0) (.int 0) (.int 0)))) .tt))))))))))))))))))))))
theorem pin_vc : vcOf Try.prog pinCx 12 10 pinCtr = pinVc := by kernel_rfl
-- END VC pin
-- PROOFS
theorem pin_specs {S : Sig GG} (hS : CsSig S) : SpecsOk S Try.prog pinS := ⟨one_spec (by decide) (hold_ok S hS), hold_specs hS⟩
/-- What a hold leaves: no frame has more pins than one had. -/
theorem room_or (c : Cs) (d : Dv) : c.roomC d = c ∨ c.roomC d = c.evict := by
  unfold Cs.roomC
  by_cases h1 : (c.fr.length : Int) < c.frames ∨ c.fr.length ≤ c.old
  · exact .inl (if_pos h1)
  · rw [if_neg h1]
    by_cases h2 : c.oldF.dirty = true ∧ d.wrE c.oldF.n c.oldF.b ≠ 0
    · exact .inl (if_pos h2)
    · exact .inr (if_neg h2)
theorem room_sub {c : Cs} {d : Dv} : ∀ f ∈ (c.roomC d).fr, f ∈ c.fr := by
  intro f hf
  rcases room_or c d with h | h
  · rwa [h] at hf
  · rw [h] at hf; exact evict_sub f hf
theorem hold_pins {c : Cs} {d : Dv} {n : Int} : ∀ f ∈ (c.holdC d n).fr, f.pins = 0 ∨ f ∈ c.fr := by
  intro f hf
  unfold Cs.holdC at hf
  by_cases h1 : c.hit n
  · rw [if_pos h1] at hf
    have hf : f ∈ c.fr.take (c.idx n) ++ c.fr.drop (c.idx n + 1) ++ [c.at' (c.idx n : Nat)] := hf
    rcases List.mem_append.1 hf with hf | hf
    · rcases List.mem_append.1 hf with hf | hf
      · exact .inr (List.mem_of_mem_take hf)
      · exact .inr (List.mem_of_mem_drop hf)
    · rw [List.mem_singleton.1 hf]; exact .inr (at_mem h1)
  · rw [if_neg h1] at hf
    by_cases h2 : c.stuck ∨ d.ref n ≠ 0
    · rw [if_pos h2] at hf; exact .inr hf
    · rw [if_neg h2] at hf
      by_cases h3 : c.roomE (d.rdD n) ≠ 0
      · rw [if_pos h3] at hf; exact .inr (room_sub f hf)
      · rw [if_neg h3] at hf
        have hf : f ∈ (c.roomC (d.rdD n)).fr ++ [_] := hf
        rcases List.mem_append.1 hf with hf | hf
        · exact .inr (room_sub f hf)
        · rw [List.mem_singleton.1 hf]; exact .inl rfl
theorem pin_ok (S : Sig GG) (hS : CsSig S) : CtrOk S Try.prog 10 pinCtr := by
  refine vcOf_sound S (C := pinCx) (fuel := 12) (cx_of (pin_specs hS) ⟨⟨⟨by decide, opF_gh S hS⟩, ⟨by decide, shF_gh S hS⟩, ⟨by decide, foK_gh S hS⟩, trivial⟩, trivial⟩ trivial) fun ρ => ?_
  rw [pin_vc]
  simp only [pinVc, hS.u287, hS.u288, hS.u280, hS.u281, hS.u282, hS.u283, hS.u284, hS.u285, co_g, dvOf_g, hS.dv.u200, hS.dv.u201, hS.dv.u202, hS.dv.u203, hS.dv.u204, hS.dv.u205, hS.dv.u206, hS.dv.u207, hS.dv.u208, hS.dv.u209, hS.dv.u210, hS.dv.u211, hS.dv.u212, hS.dv.u213, hS.dv.u214, hS.dv.u215, hS.dv.u216, hS.dv.u217, hS.dv.u220, hS.dv.u221, hS.dv.u222, hS.dv.u223, hS.dv.u224, hS.dv.u225, hS.dv.u226, hS.dv.u227, hS.dv.u228, hS.dv.u229, hS.dv.u230, hS.dv.u231, hS.dv.u232, hS.dv.u233, hS.dv.u234, co_g, csOf_g, hS.rg.u240, hS.rg.u241, hS.rg.u242, hS.rg.u243, hS.rg.u244, hS.rg.u245, hS.rg.u246, hS.rg.u247, hS.rg.u248, hS.rg.u249, hS.u250, hS.u251, hS.u252, hS.u253, hS.u254, hS.u255, hS.u256, hS.u257, hS.u258, hS.u259, hS.u260, hS.u261, hS.u262, hS.u263, hS.u264, hS.u265, hS.u266, hS.u267, hS.u268, hS.u269, hS.u270, hS.u271, hS.u272, hS.u273, hS.u274, VC.den, SX.den, co_int, co_bool, co_bytes, co_ints, co_rows, co_map, Env.upd, p155, p153, p23, p45, p46, p47, p50, b46, b47, t46, t47, p2_45, ap1_2, ap1_30, ap1_31, ap1_32, ap1_152, ap1_153, ap1_154, ap2_40, ap2_41, ap2_42, ap2_43, ap2_45, p48_b, ap2_51i, ap2_52i, ap2_110, ap2_111, ap2_113, ap2_114, ap2_115, ap2_117, ap2_120, ap2_126, ap2_141, ap3_112, ap3_140, beq_iff_eq, Bool.not_eq_true', beq_eq_false_iff_ne, ne_eq, Bool.not_not, U.toProp_bool, U.toBool_bool, i64lo, i64hi, U.toInt_int, U.toInts_ints, U.toBytes_bytes, U.toRows_rows, U.toMap_amap, Int.toNat_zero, Nat.reduceEqDiff, reduceIte, propB_iff, leB_iff, ltB_iff, U.int.injEq, U.bool.injEq, U.bytes.injEq, U.ints.injEq, U.rows.injEq]
  generalize csOf (U.co S .g (ρ 2)) = c
  generalize dvOf (U.co S .g (ρ 3)) = d
  generalize (ρ 4).toInt = n
  intro q1 q2 q3 q4 q5 q6 q7 hpb hm H R m l hh hg hnd hor
  refine ⟨fun he => ?_, fun he => ?_⟩
  · have h0 : 0 < R.length := by rw [hh.1]; exact hold_pos he
    obtain ⟨k1, k2⟩ := last_row hnd h0 (hor.resolve_left (fun h => h he))
    have hlen := hh.1
    simp only [k1, putF_mk, setR_mk, Int.toNat_natCast, List.take_length]
    have hj : R.length - 1 < (c.holdC d n).fr.length := by omega
    have hat := at_mem hj
    have hpn := hg.pins _ hat
    have hpp : ((c.holdC d n).at' ((R.length - 1 : Nat) : Int)).pins ≤ 4611686018427387904 := by
      rcases hold_pins _ hat with h | h
      · omega
      · exact hpb _ h
    have e1 : c.pinC d n = (c.holdC d n).pinAt ((R.length - 1 : Nat) : Int) 1 := by
      unfold Cs.pinC
      rw [if_pos he, show (((c.holdC d n).fr.length : Nat) : Int) + -1 = ((R.length - 1 : Nat) : Int) by omega]
    simp only [e1]
    refine ⟨by omega, fun _ _ => ⟨by omega, by omega, trivial, Int.le_refl _, (setR_map (show R.length - 1 < R.length by omega) k2).symm, put_held hh hj rfl k2, hg.put hj rfl (show 0 ≤ ((c.holdC d n).at' ((R.length - 1 : Nat) : Int)).pins + 1 by omega) (show ((c.holdC d n).at' ((R.length - 1 : Nat) : Int)).b.length ≤ 65536 from hg.b _ hat), rfl, by first | trivial | rfl, trivial⟩⟩
  · have e1 : c.pinC d n = c.holdC d n := if_neg he
    simp only [e1]
    exact ⟨by first | trivial | rfl, hg, by first | trivial | rfl, trivial⟩
end
end Go.Proofs.Ytlcfjjjdhdfbdaa

/- A cache: Put; a device's Page. -/
set_option linter.unusedSimpArgs false
set_option linter.unusedVariables false
namespace Go.Proofs.Ytlcfjjjdhdfbdaa
noncomputable section
open Go.Eng
def pageCtr : Ctr := ⟨[.int, .g], [.one (.ptr (ai 0) 0)], [plC (ai 0) (gA 1)], [], [], .one (.int .i64 (usI 200 (gA 1) z0 z0)), [plC (ai 0) (gA 1)], []⟩
def pageCx : Cx := { specs := [], anns := [(21, [(0, .ghost unPC [.tmp 0]), (999999, .ghost (foPC [] [] (gA 1)) [.tmp 0])])] }
def putS : List (Nat × List Ctr) := (24, [roomCtr]) :: (19, [cl1Ctr]) :: (21, [pageCtr]) :: (20, [pagsCtr]) :: cacheS
def putB : SX := tkB (bA 8) (ai 6)
def putG (k : Nat) : SX := Go.Eng.SX.us .g k (gA 2) (gA 3) (ai 4) putB
/-- 0 the cache; 1 its device; 2, 3 how they stand; 4 the page; 5, 6, 7 the bytes, 8 what they hold. -/
def putCtr : Ctr := ⟨[.int, .int, .g, .g, .int, .int, .int, .int, .bytes], [.one (.ptr (ai 0) 0), .one (.int .i64 (ai 4)), .one (sl1 (ai 5) (ai 6) (ai 7))], [csC (ai 0) (ai 1) (gA 2), plC (ai 1) (gA 3), bAr (ai 5) (bA 8) (ai 7)],
  dvQ (gA 3) ++ [eLe (usI 260 (gA 2) z0 z0) big62, eLe z0 (ai 6), eLe (ai 6) (lenB (bA 8)), eLe (ai 6) (ai 7), .f2 50 (eLe z0 (ai 5)) (.f2 45 (ai 6) z0)], [],
  .one (.int .i64 (Go.Eng.SX.us .int 301 (gA 2) (gA 3) (ai 4) putB)), [csC (ai 0) (ai 1) (putG 299), plC (ai 1) (putG 300), bAr (ai 5) (bA 8) (ai 7)], []⟩
def putCx : Cx := { specs := putS, anns := [(9, [(0, .ghost nrPC []), (0, .ghost gdPC []), (1, .ghost unCsC [.tmp 0]), (1, .ghost ndRC []), (500008, .ghost rtFC [.tmp 7]), (9, .ghost foKC [.tmp 0]), (11, .ghost unCsC [.tmp 0]), (12, .ghost unCsC [.tmp 0]), (12, .ghost ndRC []), (12, .ghost emBC []), (13, .ghost opFC [.tmp 7]), (500013, .ghost shFC [.tmp 7]), (999999, .ghost foKC [.tmp 0])])] }
-- BEGIN VC page
def pageVc : VC := (.all 2 .int (.all 3 .int (.all 4 .int (.all 5 .int (.all 6 .int (.all 7 .int (.all 8 .int (.all 9 .int (.all 10 .int (.all 11 .rows (.all 12 .amap
    (.all 13 .ints (.imp (.f2 47 (.int 0) (.at .int 5)) (.imp (.f2 47 (.at .int 5) (.f1 32 (.at .rows 11))) (.imp (.f2 45 (.at .int 5) (.us .int 211
    (.at .g 1) (.int 0) (.int 0) (.int 0))) (.imp (.f2 47 (.at .int 5) (.at .int 6)) (.imp (.f2 47 (.int 0) (.at .int 9)) (.imp (.f2 47 (.at .int 9)
    (.f1 30 (.at .ints 13))) (.imp (.f2 153 (.f2 113 (.at .ints 13) (.at .int 9)) (.us .ints 209 (.at .g 1) (.int 0) (.int 0) (.int 0))) (.imp (.us
    .bool 214 (.at .amap 12) (.at .g 1) (.int 0) (.int 0)) (.imp (.us .bool 215 (.at .g 1) (.int 0) (.int 0) (.int 0)) (.imp (.f2 47 (.f1 31 (.us
    .bytes 208 (.at .g 1) (.int 0) (.int 0) (.int 0))) (.at .int 3)) (.imp (.f2 47 (.int 0) (.at .int 2)) (.imp (.us .bool 237 (.at .amap 12) (.int 0)
    (.int 0) (.int 0)) (.need (.f2 155 (.f2 115 (.at .rows 11) (.at .int 5)) (.f2 115 (.at .rows 11) (.at .int 5))) (.need (.us .bool 216 (.at .g 1)
    (.at .g 1) (.int 0) (.int 0)) .tt))))))))))))))))))))))))))
theorem page_vc : vcOf Try.prog pageCx 12 21 pageCtr = pageVc := by kernel_rfl
-- END VC page
-- BEGIN VC put
def putX0 : SX := .us .int 260 (.at .g 2) (.int 0) (.int 0) (.int 0)
def putX1 : SX := .f2 45 (.at .int 6) (.int 0)
def putX2 : SX := .us .g 234 (.at .g 3) (.int 0) (.int 0) (.int 0)
def putX3 : SX := .us .ints 242 (.at .rows 11) (.int 0) (.int 0) (.int 0)
def putX4 : SX := .us .int 210 putX2 (.int 0) (.int 0) (.int 0)
def putX5 : SX := .f2 155 putX3 putX3
def putX6 : SX := .us .int 258 (.at .g 2) (.int 0) (.int 0) (.int 0)
def putX7 : SX := .us .int 259 (.at .g 2) (.int 0) (.int 0) (.int 0)
def putX8 : SX := .us .g 267 (.at .g 2) putX6 putX7 putX0
def putX9 : SX := .us .bool 268 putX8 (.int 0) (.int 0) (.int 0)
def putX10 : SX := .f2 114 (.at .bytes 8) (.at .int 6)
def putX11 : SX := .us .g 300 (.at .g 2) (.at .g 3) (.at .int 4) putX10
def putX12 : SX := .f2 155 putX11 putX2
def putX13 : SX := .us .g 299 (.at .g 2) (.at .g 3) (.at .int 4) putX10
def putX14 : SX := .f2 155 putX13 putX8
def putX15 : SX := .us .int 301 (.at .g 2) (.at .g 3) (.at .int 4) putX10
def putX16 : SX := .f2 45 putX15 (.int 30)
def putX17 : SX := .f2 45 (.at .int 6) (.us .int 200 putX2 (.int 0) (.int 0) (.int 0))
def putX18 : SX := .f2 141 (.at .amap 12) (.at .int 4)
def putX19 : SX := .f3 140 (.int (- (0 + 1))) (.at .amap 12) (.at .int 4)
def putX20 : SX := .us .int 250 (.at .rows 11) putX19 (.int 0) (.int 0)
def putX21 : SX := .us .rows 270 (.at .rows 11) putX20 (.int 0) (.int 0)
def putX22 : SX := .us .int 250 putX21 putX19 (.int 0) (.int 0)
def putX23 : SX := .us .g 263 (.at .g 2) putX20 (.int 0) (.int 0)
def putX24 : SX := .f1 31 (.us .bytes 253 putX23 putX22 (.int 0) (.int 0))
def putX25 : SX := .f2 47 (.at .int 6) (.int 1099511627776)
def putX26 : SX := .f2 114 (.at .bytes 16) (.at .int 6)
def putX27 : SX := .us .int 252 putX23 putX22 (.int 0) (.int 0)
def putX28 : SX := .us .rows 269 putX21 putX22 (.f2 122 putX19 (.f2 122 (.at .int 15) (.f2 122 (.at .int 17) (.f1 152 (.int 0))))) (.int 0)
def putX29 : SX := .us .g 266 putX23 putX22 putX26 (.f2 122 (.int 1) (.f2 122 (.us .int 255 putX23 putX22 (.int 0) (.int 0)) (.f1 152 (.int 0))))
def putX30 : SX := .us .g 267 putX29 putX6 putX7 putX0
def putX31 : SX := .f2 45 putX15 (.int 0)
def putX32 : SX := .us .int 282 putX8 putX2 (.int 0) (.int 0)
def putX33 : SX := .f2 45 putX32 (.int 0)
def putX34 : SX := .us .g 280 putX8 putX2 (.int 0) (.int 0)
def putX35 : SX := .us .bool 251 (.at .amap 16) (.at .rows 15) putX34 (.int 0)
def putX36 : SX := .us .bool 268 putX34 (.int 0) (.int 0) (.int 0)
def putX37 : SX := .us .int 256 putX34 (.int 0) (.int 0) (.int 0)
def putX38 : SX := .f2 45 (.f1 32 (.at .rows 15)) putX37
def putX39 : SX := .f2 47 (.int 0) (.at .int 13)
def putX40 : SX := .us .ints 242 (.at .rows 15) (.int 0) (.int 0) (.int 0)
def putX41 : SX := .f2 155 putX40 putX40
def putX42 : SX := .us .g 267 putX34 (.us .int 258 putX34 (.int 0) (.int 0) (.int 0)) (.us .int 259 putX34 (.int 0) (.int 0) (.int 0)) (.us .int 260 putX34 (.int 0) (.int 0) (.int 0))
def putX43 : SX := .f2 155 putX11 (.us .g 281 putX8 putX2 (.int 0) (.int 0))
def putX44 : SX := .us .g 265 putX34 (.at .int 4) (.f1 153 (.int 0)) (.int 0)
def putX45 : SX := .us .ints 242 (.at .rows 18) (.int 0) (.int 0) (.int 0)
def putX46 : SX := .us .int 250 (.at .rows 18) (.at .int 17) (.int 0) (.int 0)
def putX47 : SX := .f1 31 (.us .bytes 253 putX44 putX46 (.int 0) (.int 0))
def putX48 : SX := .f2 114 (.at .bytes 21) (.at .int 6)
def putX49 : SX := .us .int 252 putX44 putX46 (.int 0) (.int 0)
def putX50 : SX := .us .rows 269 (.at .rows 18) putX46 (.f2 122 (.at .int 17) (.f2 122 (.at .int 20) (.f2 122 (.at .int 22) (.f1 152 (.int 0))))) (.int 0)
def putX51 : SX := .us .g 266 putX44 putX46 putX48 (.f2 122 (.int 1) (.f2 122 (.us .int 255 putX44 putX46 (.int 0) (.int 0)) (.f1 152 (.int 0))))
def putX52 : SX := .us .g 267 putX51 (.us .int 258 putX44 (.int 0) (.int 0) (.int 0)) (.us .int 259 putX44 (.int 0) (.int 0) (.int 0)) (.us .int 260 putX44 (.int 0) (.int 0) (.int 0))
def putVc : VC := (.imp (.f2 47 (.us .int 206 (.at .g 3) (.int 0) (.int 0) (.int 0)) (.int 4611686018427387904)) (.imp (.f2 47 (.us .int 211 (.at .g 3) (.int 0) (.int 
    0) (.int 0)) (.int 1099511627776)) (.imp (.f2 47 (.f1 30 (.us .ints 209 (.at .g 3) (.int 0) (.int 0) (.int 0))) (.int 140737488355328)) (.imp (.f2 47 
    putX0 (.int 4611686018427387904)) (.imp (.f2 47 (.int 0) (.at .int 6)) (.imp (.f2 47 (.at .int 6) (.f1 31 (.at .bytes 8))) (.imp (.f2 47 (.at .int 6) 
    (.at .int 7)) (.imp (.f2 50 (.f2 47 (.int 0) (.at .int 5)) putX1) (.imp (.us .bool 215 putX2 (.int 0) (.int 0) (.int 0)) (.all 9 .int (.all 10 .int 
    (.all 11 .rows (.all 12 .amap (.imp (.us .bool 251 (.at .amap 12) (.at .rows 11) (.at .g 2) (.int 0)) (.imp (.us .bool 268 (.at .g 2) (.int 0) (.int 
    0) (.int 0)) (.imp (.f2 45 (.f1 32 (.at .rows 11)) (.us .int 256 (.at .g 2) (.int 0) (.int 0) (.int 0))) (.imp (.f2 47 (.int 0) (.at .int 9)) (.imp 
    (.us .bool 246 (.at .int 10) putX3 (.int 0) (.int 0)) (.imp (.us .bool 249 (.at .int 10) putX3 (.int 0) (.int 0)) (.and (.imp (.f2 47 (.int 0) (.at 
    .int 4)) (.and (.imp (.f2 47 putX4 (.at .int 4)) (.need putX5 (.need putX9 (.need putX12 (.need putX14 (.need putX16 .tt)))))) (.imp (.f2 46 (.at .int 
    4) putX4) (.and (.imp (.f1 2 putX17) (.need putX5 (.need putX9 (.need putX12 (.need putX14 (.need (.f2 45 putX15 (.int 31)) .tt)))))) (.imp putX17 
    (.and (.imp putX18 (.need (.us .bool 241 putX3 putX19 (.int 0) (.int 0)) (.all 13 .int (.all 14 .int (.need (.f2 46 putX20 (.f1 32 (.at .rows 11))) 
    (.need (.f2 46 putX22 (.f1 32 putX21)) (.imp (.f2 47 putX24 (.f3 112 putX21 putX22 (.int 2))) (.imp (.f2 50 (.f2 47 (.int 0) (.f3 112 putX21 putX22 
    (.int 1))) (.f2 45 putX24 (.int 0))) (.need putX25 (.all 15 .int (.all 16 .bytes (.all 17 .int (.imp (.f2 155 putX26 putX10) (.imp (.f2 45 (.f1 31 
    (.at .bytes 16)) (.at .int 6)) (.imp (.f2 47 (.at .int 6) (.at .int 17)) (.imp (.f2 50 (.f2 47 (.int 0) (.at .int 15)) putX1) (.need (.f2 47 (.int 0) 
    putX22) (.need (.f2 45 putX27 putX27) (.need (.f2 47 (.at .int 6) (.f1 31 (.at .bytes 16))) (.need (.f2 155 (.us .ints 243 (.us .ints 240 putX3 putX19 
    (.int 0) (.int 0)) putX19 (.int 0) (.int 0)) (.us .ints 242 putX28 (.int 0) (.int 0) (.int 0))) (.need (.us .bool 251 (.at .amap 12) putX28 putX29 
    (.int 0)) (.need (.us .bool 268 putX30 (.int 0) (.int 0) (.int 0)) (.need (.f2 45 (.us .int 257 putX29 (.int 0) (.int 0) (.int 0)) (.us .int 257 (.at 
    .g 2) (.int 0) (.int 0) (.int 0))) (.need putX12 (.need (.f2 155 putX13 putX30) (.need putX31 .tt)))))))))))))))))))))))))) (.imp (.f1 2 putX18) 
    (.need putX5 (.need putX9 (.need (.f2 47 (.us .int 206 putX2 (.int 0) (.int 0) (.int 0)) (.int 4611686018427387904)) (.need (.f2 47 (.us .int 211 
    putX2 (.int 0) (.int 0) (.int 0)) (.int 1099511627776)) (.need (.f2 47 (.f1 30 (.us .ints 209 putX2 (.int 0) (.int 0) (.int 0))) (.int 
    140737488355328)) (.need (.f2 47 (.us .int 260 putX8 (.int 0) (.int 0) (.int 0)) (.int 4611686018427387904)) (.and (.imp (.f1 2 putX33) (.all 13 .int 
    (.all 14 .int (.all 15 .rows (.all 16 .amap (.imp putX35 (.imp putX36 (.imp putX38 (.imp putX39 (.need putX41 (.need (.us .bool 268 putX42 (.int 0) 
    (.int 0) (.int 0)) (.need putX43 (.need (.f2 155 putX13 putX42) (.need (.f2 45 putX15 putX32) .tt)))))))))))))) (.imp putX33 (.all 13 .int (.all 14 
    .int (.all 15 .rows (.all 16 .amap (.imp putX35 (.imp putX36 (.imp putX38 (.imp putX39 (.imp (.us .bool 246 (.at .int 14) putX40 (.int 0) (.int 0)) 
    (.imp (.us .bool 249 (.at .int 14) putX40 (.int 0) (.int 0)) (.need putX41 (.need (.f2 47 putX37 (.us .int 262 putX34 (.at .int 4) (.int 0) (.int 0))) 
    (.need (.f2 46 putX37 (.us .int 257 putX34 (.int 0) (.int 0) (.int 0))) (.all 17 .int (.all 18 .rows (.all 19 .amap (.imp (.us .bool 251 (.at .amap 
    19) (.at .rows 18) putX44 (.int 0)) (.imp (.us .bool 268 putX44 (.int 0) (.int 0) (.int 0)) (.imp (.f2 45 (.f1 32 (.at .rows 18)) (.f2 40 (.f1 32 (.at 
    .rows 15)) (.int 1))) (.imp (.f2 45 (.f3 112 (.at .rows 18) (.f1 32 (.at .rows 15)) (.int 0)) (.at .int 17)) (.imp (.us .bool 246 (.at .int 14) putX45 
    (.int 0) (.int 0)) (.need (.f2 46 putX46 (.f1 32 (.at .rows 18))) (.imp (.f2 47 putX47 (.f3 112 (.at .rows 18) putX46 (.int 2))) (.imp (.f2 50 (.f2 47 
    (.int 0) (.f3 112 (.at .rows 18) putX46 (.int 1))) (.f2 45 putX47 (.int 0))) (.need putX25 (.all 20 .int (.all 21 .bytes (.all 22 .int (.imp (.f2 155 
    putX48 putX10) (.imp (.f2 45 (.f1 31 (.at .bytes 21)) (.at .int 6)) (.imp (.f2 47 (.at .int 6) (.at .int 22)) (.imp (.f2 50 (.f2 47 (.int 0) (.at .int 
    20)) putX1) (.need (.f2 47 (.int 0) putX46) (.need (.f2 45 putX49 putX49) (.need (.f2 47 (.at .int 6) (.f1 31 (.at .bytes 21))) (.need (.f2 155 putX45 
    (.us .ints 242 putX50 (.int 0) (.int 0) (.int 0))) (.need (.us .bool 251 (.at .amap 19) putX50 putX51 (.int 0)) (.need (.us .bool 268 putX52 (.int 0) 
    (.int 0) (.int 0)) (.need (.f2 45 (.us .int 257 putX51 (.int 0) (.int 0) (.int 0)) (.us .int 257 putX44 (.int 0) (.int 0) (.int 0))) (.need putX43 
    (.need (.f2 155 putX13 putX52) (.need putX31 .tt))))))))))))))))))))))))))))))))))))))))))))))))))))))))) (.imp (.f2 46 (.at .int 4) (.int 0)) (.need 
    putX5 (.need putX9 (.need putX12 (.need putX14 (.need putX16 .tt))))))))))))))))))))))))))
theorem put_vc : vcOf Try.prog putCx 12 9 putCtr = putVc := by kernel_rfl
-- END VC put
-- PROOFS
theorem page_ok (S : Sig GG) (hS : DvSig S) : CtrOk S Try.prog 21 pageCtr := by
  refine vcOf_sound S (C := pageCx) (fuel := 12) (cx_of trivial ⟨⟨⟨by decide, unP_gh S hS⟩, ⟨by decide, foP_gh S hS _ _ _⟩, trivial⟩, trivial⟩ trivial) fun ρ => ?_
  rw [page_vc]
  simp only [pageVc, co_g, dvOf_g, hS.u200, hS.u201, hS.u202, hS.u203, hS.u204, hS.u205, hS.u206, hS.u207, hS.u208, hS.u209, hS.u210, hS.u211, hS.u214, hS.u215, hS.u216, hS.u237, VC.den, SX.den, co_int, co_bool, co_bytes, co_ints, co_rows, co_map, Env.upd, p155, p153, p45, p46, p47, U.toProp_bool, U.toBool_bool, propB_iff]
  intro i2 i3 i4 i5 i6 i7 i8 i9 i10 R11 M12 I13 h1 h2 h3 h4 h5 h6 h7 h8 hg h9 h10 h11
  exact ⟨trivial, trivial, trivial⟩
theorem put_specs {S : Sig GG} (hS : CsSig S) : SpecsOk S Try.prog putS := ⟨one_spec (by decide) (room_ok S hS), one_spec (by decide) (cl1_ok S), one_spec (by decide) (page_ok S hS.dv), one_spec (by decide) (pags_ok S hS.dv), cache_specs hS⟩
theorem putF_mk1 {c : Cs} {i : Int} {b : List UInt8} {p : Int} : c.putF i b (ap2 122 (U.int 1) (ap2 122 (U.int p) (U.ints [])) : U GG).toInts = c.put i ⟨(c.at' i).n, b, true, p⟩ := rfl
theorem put_add {c : Cs} {f g : Fr} : (c.add f).put (c.fr.length : Nat) g = c.add g := by
  unfold Cs.put Cs.add
  simp
theorem put_ok (S : Sig GG) (hS : CsSig S) : CtrOk S Try.prog 9 putCtr := by
  refine vcOf_sound S (C := putCx) (fuel := 12) (cx_of (put_specs hS) ⟨⟨⟨by decide, nrP_gh S hS⟩, ⟨by decide, gdP_gh S hS⟩, ⟨by decide, unCs_gh S hS⟩, ⟨by decide, ndR_gh S hS.rg⟩, ⟨by decide, rtF_gh S hS⟩, ⟨by decide, foK_gh S hS⟩, ⟨by decide, unCs_gh S hS⟩, ⟨by decide, unCs_gh S hS⟩, ⟨by decide, ndR_gh S hS.rg⟩, ⟨by decide, emB_gh S⟩, ⟨by decide, opF_gh S hS⟩, ⟨by decide, shF_gh S hS⟩, ⟨by decide, foK_gh S hS⟩, trivial⟩, trivial⟩ trivial) fun ρ => ?_
  rw [put_vc]
  simp only [putVc, putX0, putX1, putX2, putX3, putX4, putX5, putX6, putX7, putX8, putX9, putX10, putX11, putX12, putX13, putX14, putX15, putX16, putX17, putX18, putX19, putX20, putX21, putX22, putX23, putX24, putX25, putX26, putX27, putX28, putX29, putX30, putX31, putX32, putX33, putX34, putX35, putX36, putX37, putX38, putX39, putX40, putX41, putX42, putX43, putX44, putX45, putX46, putX47, putX48, putX49, putX50, putX51, putX52, hS.u299, hS.u300, hS.u301, hS.u280, hS.u281, hS.u282, hS.u283, hS.u284, hS.u285, co_g, dvOf_g, hS.dv.u200, hS.dv.u201, hS.dv.u202, hS.dv.u203, hS.dv.u204, hS.dv.u205, hS.dv.u206, hS.dv.u207, hS.dv.u208, hS.dv.u209, hS.dv.u210, hS.dv.u211, hS.dv.u212, hS.dv.u213, hS.dv.u214, hS.dv.u215, hS.dv.u216, hS.dv.u217, hS.dv.u220, hS.dv.u221, hS.dv.u222, hS.dv.u223, hS.dv.u224, hS.dv.u225, hS.dv.u226, hS.dv.u227, hS.dv.u228, hS.dv.u229, hS.dv.u230, hS.dv.u231, hS.dv.u232, hS.dv.u233, hS.dv.u234, co_g, csOf_g, hS.rg.u240, hS.rg.u241, hS.rg.u242, hS.rg.u243, hS.rg.u244, hS.rg.u245, hS.rg.u246, hS.rg.u247, hS.rg.u248, hS.rg.u249, hS.u250, hS.u251, hS.u252, hS.u253, hS.u254, hS.u255, hS.u256, hS.u257, hS.u258, hS.u259, hS.u260, hS.u261, hS.u262, hS.u263, hS.u264, hS.u265, hS.u266, hS.u267, hS.u268, hS.u269, hS.u270, hS.u271, hS.u272, hS.u273, hS.u274, VC.den, SX.den, co_int, co_bool, co_bytes, co_ints, co_rows, co_map, Env.upd, p155, p153, p23, p45, p46, p47, p50, b46, b47, t46, t47, p2_45, ap1_2, ap1_30, ap1_31, ap1_32, ap1_152, ap1_153, ap1_154, ap2_40, ap2_41, ap2_42, ap2_43, ap2_45, p48_b, ap2_51i, ap2_52i, ap2_110, ap2_111, ap2_113, ap2_114, ap2_115, ap2_117, ap2_120, ap2_126, ap2_141, ap3_112, ap3_140, beq_iff_eq, Bool.not_eq_true', beq_eq_false_iff_ne, ne_eq, Bool.not_not, U.toProp_bool, U.toBool_bool, i64lo, i64hi, U.toInt_int, U.toInts_ints, U.toBytes_bytes, U.toRows_rows, U.toMap_amap, Int.toNat_zero, Nat.reduceEqDiff, reduceIte, propB_iff, leB_iff, ltB_iff, U.int.injEq, U.bool.injEq, U.bytes.injEq, U.ints.injEq, U.rows.injEq]
  generalize csOf (U.co S .g (ρ 2)) = c
  generalize dvOf (U.co S .g (ρ 3)) = d
  generalize (ρ 4).toInt = n
  generalize hL : (ρ 6).toInt = L
  generalize hB0 : (ρ 8).toBytes = B0
  intro q1 q2 q3 q4 r1 r2 r3 r4 hgd hm H R m hh hg hlen hpos hnd hp
  have hhas := hh.has n
  have hBl : ((B0.take L.toNat).length : Int) = L := by rw [List.length_take]; omega
  have hpb := rd_big hgd
  generalize hB : B0.take L.toNat = B at *
  refine ⟨fun hn0 => ⟨fun hn1 => ?_, fun hn1 => ⟨fun hsz => ?_, fun hsz => ⟨fun hit => ?_, fun nohit => ?_⟩⟩⟩, fun hn0 => ?_⟩
  · have hbad : Cs.bad d n B := .inr (.inl hn1)
    have e1 : c.putC d n B = c := if_pos hbad
    have e2 : c.putD d n B = d := if_pos (.inl hbad)
    have e3 : c.putE d n B = 30 := if_pos (.inr hn1)
    simp only [e1, e2, e3]
    exact ⟨trivial, hg, trivial, trivial, trivial, trivial⟩
  · have hbad : Cs.bad d n B := .inr (.inr (by omega))
    have e1 : c.putC d n B = c := if_pos hbad
    have e2 : c.putD d n B = d := if_pos (.inl hbad)
    have e3 : c.putE d n B = 31 := by unfold Cs.putE; rw [if_neg (by omega), if_pos (by omega)]
    simp only [e1, e2, e3]
    exact ⟨trivial, hg, trivial, trivial, trivial, trivial⟩
  · have hbad : ¬ Cs.bad d n B := by rintro (h | h | h) <;> omega
    have hj : c.idx n < c.fr.length := hhas.1 hit
    have e1 : c.putC d n B = c.hitP n B := by unfold Cs.putC; rw [if_neg hbad, if_pos (show c.hit n from hj)]
    have e2 : c.putD d n B = d := if_pos (.inr hj)
    have e3 : c.putE d n B = 0 := by unfold Cs.putE; rw [if_neg (by omega), if_neg (by omega), if_pos (show c.hit n from hj)]
    have hlen' := hh.1
    have hl : mget (-(0 + 1)) m n = g0 (R.getD (c.idx n) []) := by have := hh.get (d := -(0 + 1)) hj; rwa [Cs.idx_n hj] at this
    have hr : rowI (mget (-(0 + 1)) m n) R = c.idx n := by
      rw [hl, rowI_idx, ← map_getD R _ (by omega)]; exact idx_nod (List.nodup_cons.1 hnd).2 (by rw [List.length_map]; omega)
    have hrot : (rotR R (c.idx n : Nat)).map g0 = (R.map g0).erase (mget (-(0 + 1)) m n) ++ [mget (-(0 + 1)) m n] := by
      rw [erase_row, hr, hl]
      show (gonR R _ ++ [_]).map g0 = _
      rw [List.map_append]; rfl
    have hmem : mget (-(0 + 1)) m n ∈ R.map g0 := rowI_mem (by rw [hr]; omega)
    have hnd2 : (H :: (rotR R (c.idx n : Nat)).map g0).Nodup := by
      rw [hrot]
      exact (((List.perm_cons_erase hmem).trans (List.perm_append_comm (l₁ := [_]))).cons H).nodup_iff.1 hnd
    have hgt : GoodC (c.touch (c.idx n : Nat)) := by have h := hg.hit hj (hh.rot hj).2.1; exact ⟨h.frames, h.len, h.nod, h.pins, hg.cnt, h.b⟩
    have hht : heldOk m (rotR R (c.idx n : Nat)) (c.touch (c.idx n : Nat)).fr := hh.rot hj
    have hgl : (c.gone (c.idx n : Nat)).fr.length + 1 = c.fr.length := by
      show (c.fr.take (c.idx n) ++ c.fr.drop (c.idx n + 1)).length + 1 = _
      rw [List.length_append, List.length_take, List.length_drop]; omega
    have hK : (c.gone (c.idx n : Nat)).fr.length < (c.touch (c.idx n : Nat)).fr.length := by
      show _ < ((c.gone (c.idx n : Nat)).fr ++ [_]).length
      rw [List.length_append]; exact Nat.lt_succ_self _
    have hRl : (rotR R (c.idx n : Nat)).length = R.length := by
      have := hht.1
      rw [this]; show ((c.gone (c.idx n : Nat)).fr ++ [_]).length = _
      rw [List.length_append]; show _ + 1 = _; omega
    obtain ⟨k1, k2⟩ := last_row hnd2 (by omega) (hl.trans (congrArg g0 (rot_last (R := R) (show c.idx n < R.length by omega)).symm))
    have hKR : (rotR R (c.idx n : Nat)).length - 1 = (c.gone (c.idx n : Nat)).fr.length := by omega
    rw [hKR] at k1 k2
    have hat : (c.touch (c.idx n : Nat)).at' ((c.gone (c.idx n : Nat)).fr.length : Nat) = c.at' (c.idx n : Nat) := by
      show ((c.gone (c.idx n : Nat)).fr ++ [_]).getD _ fr0 = _
      rw [Int.toNat_natCast, List.getD_eq_getElem?_getD, List.getElem?_append_right (Nat.le_refl _), Nat.sub_self]; rfl
    simp only [hr, k1, putF_mk1, setR_mk, hat, e1, e2, e3]
    refine ⟨hmem, fun _ _ => ⟨by omega, by omega, fun _ _ => ⟨by omega, fun b X cp x1 x2 x3 x4 => ?_⟩⟩⟩
    rw [x1]
    have hcp : (c.touch (c.idx n : Nat)).put ((c.gone (c.idx n : Nat)).fr.length : Nat) ⟨(c.at' (c.idx n : Nat)).n, B, true, (c.at' (c.idx n : Nat)).pins⟩ = c.hitP n B := put_add
    rw [← hcp]
    exact ⟨by omega, trivial, by omega, hrot.symm.trans (setR_map (show (c.gone (c.idx n : Nat)).fr.length < _ by omega) k2).symm, put_held hht hK (by rw [hat]) k2, hgt.put hK (by rw [hat]) (show 0 ≤ (c.at' (c.idx n : Nat)).pins from hg.pins _ (at_mem hj)) (show B.length ≤ 65536 by omega), rfl, trivial, by first | trivial | rfl, trivial, trivial⟩
  · have hbad : ¬ Cs.bad d n B := by rintro (h | h | h) <;> omega
    have hno : ¬ c.hit n := fun h => by rw [hhas.2 h] at nohit; cases nohit
    have e2 : c.putD d n B = c.roomD d := if_neg (by rintro (h | h); exact hbad h; exact hno h)
    have e3 : c.putE d n B = c.roomE d := by unfold Cs.putE; rw [if_neg (by omega), if_neg (by omega), if_neg hno]
    refine ⟨trivial, hg, q1, q2, q3, q4, fun he => ?_, fun he => ?_⟩
    · have e1 : c.putC d n B = c.roomC d := by unfold Cs.putC; rw [if_neg hbad, if_neg hno, if_pos he]
      intro hm' H' R' m' hh' hg' hl' hp'
      simp only [e1, e2, e3]
      exact ⟨trivial, hg', trivial, trivial, trivial, trivial⟩
    · have e1 : c.putC d n B = (c.roomC d).add ⟨n, B, true, 0⟩ := by unfold Cs.putC; rw [if_neg hbad, if_neg hno, if_neg (fun h => h he)]
      obtain ⟨s1, s2, s3⟩ := room_rest hg hno he
      intro hm' H' R' m' hh' hg' hl' hp' hnd' hpp'
      refine ⟨trivial, s2, s3, fun l R2 m2 hh2 hg2 hl2 hnt hnd2 => ?_⟩
      have hl' : (R'.length : Int) = ((c.roomC d).fr.length : Nat) := hl'
      have hnt : l = g0 (R2.getD (((R2.length : Nat) : Int) + -1).toNat []) := by
        rw [show (((R2.length : Nat) : Int) + -1).toNat = ((R'.length : Nat) : Int).toNat by omega]; exact hnt.symm
      obtain ⟨k1, k2⟩ := last_row hnd2 (by omega) hnt
      have hRK : R2.length - 1 = (c.roomC d).fr.length := by omega
      rw [hRK] at k1 k2
      have hK : (c.roomC d).fr.length < ((c.roomC d).addF n []).fr.length := by
        show _ < ((c.roomC d).fr ++ [_]).length
        rw [List.length_append]; exact Nat.lt_succ_self _
      have hat : ((c.roomC d).addF n []).at' ((c.roomC d).fr.length : Nat) = ⟨n, [], false, 0⟩ := by
        show ((c.roomC d).fr ++ [_]).getD _ fr0 = _
        rw [Int.toNat_natCast, List.getD_eq_getElem?_getD, List.getElem?_append_right (Nat.le_refl _), Nat.sub_self]; rfl
      simp only [k1, putF_mk1, setR_mk, hat, e1, e2, e3]
      refine ⟨by omega, fun _ _ => ⟨by omega, fun b X cp x1 x2 x3 x4 => ?_⟩⟩
      rw [x1]
      have hcp : ((c.roomC d).addF n []).put ((c.roomC d).fr.length : Nat) ⟨n, B, true, 0⟩ = (c.roomC d).add ⟨n, B, true, 0⟩ := put_add
      rw [← hcp]
      exact ⟨by omega, trivial, by omega, (setR_map (show (c.roomC d).fr.length < R2.length by omega) k2).symm, put_held hh2 hK (by rw [hat]) k2, hg2.put hK (by rw [hat]) (Int.le_refl _) (show B.length ≤ 65536 by omega), rfl, trivial, by first | trivial | rfl, he, trivial⟩
  · have hbad : Cs.bad d n B := .inl hn0
    have e1 : c.putC d n B = c := if_pos hbad
    have e2 : c.putD d n B = d := if_pos (.inl hbad)
    have e3 : c.putE d n B = 30 := if_pos (.inl hn0)
    simp only [e1, e2, e3]
    exact ⟨trivial, hg, trivial, trivial, trivial, trivial⟩
end
end Go.Proofs.Ytlcfjjjdhdfbdaa

/- A device's Image. -/
set_option linter.unusedSimpArgs false
set_option linter.unusedVariables false
namespace Go.Proofs.Ytlcfjjjdhdfbdaa
noncomputable section
open Go.Eng
-- atoms: 0 block, 1 g; opened: 2..13; told: 2 block, 3 content, 4 room
def imgCtr : Ctr := ⟨[.int, .g], [.one (.ptr (ai 0) 0)], [plC (ai 0) (gA 1)], [], [.int, .bytes, .int], .one (sl1 (ai 2) (lenB (bA 3)) (ai 4)), [plC (ai 0) (gA 1), bAr (ai 2) (bA 3) (ai 4)],
  [eqS (bA 3) (usY 229 (gA 1) z0 z0), eLe (lenB (bA 3)) (ai 4)]⟩
def imgI (o m r lc : Nat) : Inv := ⟨[.amap, .ints, .bytes], [], [.itr .i64 (.int .i64) (ai 7) (mA m) (ai r) (mA 1000000) (iA 1000001), bAr (ai o) (bA 1000002) (ai lc)],
  [usB 235 (bA 1000002) (mA 1000000) (gA 1), usB 236 (mA 1000000) (mA m) z0, .f2 45 (lenB (bA 1000002)) (lenB (sfX (gA 1)))], .f1 33 (mA 1000000)⟩
def imgCx : Cx := { specs := [(29, [cl2Ctr])], anns := [(13, [(1, .ghost unPC [.tmp 0]), (3, .inv (imgI 14 12 17 16)), (5, .ghost toLC [.tmp 5]), (500005, .ghost pbLC []), (6, .ghost (foPC [] [] (gA 1)) [.tmp 0])])] }
-- BEGIN VC img
def imgVc : VC := (.all 2 .int (.all 3 .int (.all 4 .int (.all 5 .int (.all 6 .int (.all 7 .int (.all 8 .int (.all 9 .int (.all 10 .int (.all 11 .rows (.all 12 .amap
    (.all 13 .ints (.imp (.f2 47 (.int 0) (.at .int 5)) (.imp (.f2 47 (.at .int 5) (.f1 32 (.at .rows 11))) (.imp (.f2 45 (.at .int 5) (.us .int 211
    (.at .g 1) (.int 0) (.int 0) (.int 0))) (.imp (.f2 47 (.at .int 5) (.at .int 6)) (.imp (.f2 47 (.int 0) (.at .int 9)) (.imp (.f2 47 (.at .int 9)
    (.f1 30 (.at .ints 13))) (.imp (.f2 153 (.f2 113 (.at .ints 13) (.at .int 9)) (.us .ints 209 (.at .g 1) (.int 0) (.int 0) (.int 0))) (.imp (.us
    .bool 214 (.at .amap 12) (.at .g 1) (.int 0) (.int 0)) (.imp (.us .bool 215 (.at .g 1) (.int 0) (.int 0) (.int 0)) (.imp (.f2 47 (.f1 31 (.us
    .bytes 208 (.at .g 1) (.int 0) (.int 0) (.int 0))) (.at .int 3)) (.imp (.f2 47 (.int 0) (.at .int 2)) (.imp (.us .bool 237 (.at .amap 12) (.int 0)
    (.int 0) (.int 0)) (.need (.f2 47 (.f1 31 (.us .bytes 208 (.at .g 1) (.int 0) (.int 0) (.int 0))) (.f1 31 (.us .bytes 208 (.at .g 1) (.int 0) (.int
    0) (.int 0)))) (.need (.f2 47 (.f1 31 (.us .bytes 208 (.at .g 1) (.int 0) (.int 0) (.int 0))) (.int 1099511627776)) (.need (.f2 50 (.f2 47 (.int 0)
    (.at .int 2)) (.f2 45 (.f1 31 (.us .bytes 208 (.at .g 1) (.int 0) (.int 0) (.int 0))) (.int 0))) (.all 14 .int (.all 15 .bytes (.all 16 .int (.imp
    (.f2 155 (.f2 114 (.at .bytes 15) (.f1 31 (.us .bytes 208 (.at .g 1) (.int 0) (.int 0) (.int 0)))) (.f2 114 (.us .bytes 208 (.at .g 1) (.int 0)
    (.int 0) (.int 0)) (.f1 31 (.us .bytes 208 (.at .g 1) (.int 0) (.int 0) (.int 0))))) (.imp (.f2 45 (.f1 31 (.at .bytes 15)) (.f1 31 (.us .bytes 208
    (.at .g 1) (.int 0) (.int 0) (.int 0)))) (.imp (.f2 47 (.f1 31 (.us .bytes 208 (.at .g 1) (.int 0) (.int 0) (.int 0))) (.at .int 16)) (.imp (.f2 50
    (.f2 47 (.int 0) (.at .int 14)) (.f2 45 (.f1 31 (.us .bytes 208 (.at .g 1) (.int 0) (.int 0) (.int 0))) (.int 0))) (.all 17 .int (.imp (.f2 47
    (.int 0) (.at .int 17)) (.need (.us .bool 235 (.at .bytes 15) (.at .amap 12) (.at .g 1) (.int 0)) (.need (.us .bool 236 (.at .amap 12) (.at .amap
    12) (.int 0) (.int 0)) (.all 18 .amap (.all 19 .ints (.all 20 .bytes (.imp (.us .bool 235 (.at .bytes 20) (.at .amap 18) (.at .g 1) (.int 0)) (.imp
    (.us .bool 236 (.at .amap 18) (.at .amap 12) (.int 0) (.int 0)) (.imp (.f2 45 (.f1 31 (.at .bytes 20)) (.f1 31 (.us .bytes 208 (.at .g 1) (.int 0)
    (.int 0) (.int 0)))) (.and (.imp (.f2 45 (.f1 33 (.at .amap 18)) (.int 0)) (.need (.f2 155 (.f2 115 (.at .rows 11) (.at .int 5)) (.f2 115 (.at
    .rows 11) (.at .int 5))) (.need (.us .bool 216 (.at .g 1) (.at .g 1) (.int 0) (.int 0)) (.need (.f2 155 (.at .bytes 20) (.us .bytes 229 (.at .g 1)
    (.int 0) (.int 0) (.int 0))) (.need (.f2 47 (.f1 31 (.at .bytes 20)) (.at .int 16)) .tt))))) (.all 21 .int (.imp (.f2 141 (.at .amap 18) (.at .int
    21)) (.need (.f2 47 (.int 0) (.f3 140 (.int 0) (.at .amap 12) (.at .int 21))) (.need (.f2 46 (.f3 140 (.int 0) (.at .amap 12) (.at .int 21)) (.at
    .int 5)) (.all 22 .bytes (.imp (.f2 47 (.int 0) (.f3 112 (.at .rows 11) (.f3 140 (.int 0) (.at .amap 12) (.at .int 21)) (.int 2))) (.imp (.f2 47
    (.f3 112 (.at .rows 11) (.f3 140 (.int 0) (.at .amap 12) (.at .int 21)) (.int 2)) (.f1 31 (.at .bytes 22))) (.imp (.f2 155 (.f2 114 (.at .bytes 22)
    (.f3 112 (.at .rows 11) (.f3 140 (.int 0) (.at .amap 12) (.at .int 21)) (.int 2))) (.us .bytes 212 (.at .g 1) (.f3 140 (.int 0) (.at .amap 12) (.at
    .int 21)) (.int 0) (.int 0))) (.imp (.f2 45 (.f3 112 (.at .rows 11) (.f3 140 (.int 0) (.at .amap 12) (.at .int 21)) (.int 0)) (.us .int 217 (.at .g
    1) (.f3 140 (.int 0) (.at .amap 12) (.at .int 21)) (.int 0) (.int 0))) (.imp (.f2 47 (.f3 112 (.at .rows 11) (.f3 140 (.int 0) (.at .amap 12) (.at
    .int 21)) (.int 2)) (.f3 112 (.at .rows 11) (.f3 140 (.int 0) (.at .amap 12) (.at .int 21)) (.int 3))) (.need (.f1 23 (.f2 42 (.at .int 21) (.us
    .int 200 (.at .g 1) (.int 0) (.int 0) (.int 0)))) (.need (.f2 47 (.int 0) (.at .int 16)) (.need (.f2 47 (.int 0) (.f2 42 (.at .int 21) (.us .int
    200 (.at .g 1) (.int 0) (.int 0) (.int 0)))) (.need (.f2 47 (.f2 42 (.at .int 21) (.us .int 200 (.at .g 1) (.int 0) (.int 0) (.int 0))) (.f1 31
    (.us .bytes 208 (.at .g 1) (.int 0) (.int 0) (.int 0)))) (.need (.f2 46 (.f3 140 (.int 0) (.at .amap 12) (.at .int 21)) (.f1 32 (.at .rows 11)))
    (.need (.f2 47 (.int 0) (.f2 41 (.f1 31 (.us .bytes 208 (.at .g 1) (.int 0) (.int 0) (.int 0))) (.f2 42 (.at .int 21) (.us .int 200 (.at .g 1)
    (.int 0) (.int 0) (.int 0))))) (.need (.f2 47 (.f2 41 (.f1 31 (.us .bytes 208 (.at .g 1) (.int 0) (.int 0) (.int 0))) (.f2 42 (.at .int 21) (.us
    .int 200 (.at .g 1) (.int 0) (.int 0) (.int 0)))) (.f2 41 (.at .int 16) (.f2 42 (.at .int 21) (.us .int 200 (.at .g 1) (.int 0) (.int 0) (.int
    0))))) (.need (.f2 47 (.f2 42 (.at .int 21) (.us .int 200 (.at .g 1) (.int 0) (.int 0) (.int 0))) (.f1 31 (.at .bytes 20))) (.need (.f2 47 (.f2 40
    (.f2 42 (.at .int 21) (.us .int 200 (.at .g 1) (.int 0) (.int 0) (.int 0))) (.f2 41 (.f1 31 (.us .bytes 208 (.at .g 1) (.int 0) (.int 0) (.int 0)))
    (.f2 42 (.at .int 21) (.us .int 200 (.at .g 1) (.int 0) (.int 0) (.int 0))))) (.at .int 16)) (.need (.f2 46 (.f1 33 (.f2 143 (.at .amap 18) (.at
    .int 21))) (.f1 33 (.at .amap 18))) (.need (.us .bool 235 (.f2 120 (.f2 114 (.at .bytes 20) (.f2 42 (.at .int 21) (.us .int 200 (.at .g 1) (.int 0)
    (.int 0) (.int 0)))) (.f2 120 (.f2 114 (.f2 114 (.at .bytes 22) (.f3 112 (.at .rows 11) (.f3 140 (.int 0) (.at .amap 12) (.at .int 21)) (.int 2)))
    (.f2 51 (.f3 112 (.at .rows 11) (.f3 140 (.int 0) (.at .amap 12) (.at .int 21)) (.int 2)) (.f2 41 (.f1 31 (.us .bytes 208 (.at .g 1) (.int 0) (.int
    0) (.int 0))) (.f2 42 (.at .int 21) (.us .int 200 (.at .g 1) (.int 0) (.int 0) (.int 0)))))) (.f2 117 (.at .bytes 20) (.f2 40 (.f2 42 (.at .int 21)
    (.us .int 200 (.at .g 1) (.int 0) (.int 0) (.int 0))) (.f2 51 (.f3 112 (.at .rows 11) (.f3 140 (.int 0) (.at .amap 12) (.at .int 21)) (.int 2))
    (.f2 41 (.f1 31 (.us .bytes 208 (.at .g 1) (.int 0) (.int 0) (.int 0))) (.f2 42 (.at .int 21) (.us .int 200 (.at .g 1) (.int 0) (.int 0) (.int
    0))))))))) (.f2 143 (.at .amap 18) (.at .int 21)) (.at .g 1) (.int 0)) (.need (.us .bool 236 (.f2 143 (.at .amap 18) (.at .int 21)) (.at .amap 12)
    (.int 0) (.int 0)) (.need (.f2 45 (.f2 40 (.f1 31 (.f2 114 (.at .bytes 20) (.f2 42 (.at .int 21) (.us .int 200 (.at .g 1) (.int 0) (.int 0) (.int
    0))))) (.f2 40 (.f1 31 (.f2 114 (.f2 114 (.at .bytes 22) (.f3 112 (.at .rows 11) (.f3 140 (.int 0) (.at .amap 12) (.at .int 21)) (.int 2))) (.f2 51
    (.f3 112 (.at .rows 11) (.f3 140 (.int 0) (.at .amap 12) (.at .int 21)) (.int 2)) (.f2 41 (.f1 31 (.us .bytes 208 (.at .g 1) (.int 0) (.int 0)
    (.int 0))) (.f2 42 (.at .int 21) (.us .int 200 (.at .g 1) (.int 0) (.int 0) (.int 0))))))) (.f1 31 (.f2 117 (.at .bytes 20) (.f2 40 (.f2 42 (.at
    .int 21) (.us .int 200 (.at .g 1) (.int 0) (.int 0) (.int 0))) (.f2 51 (.f3 112 (.at .rows 11) (.f3 140 (.int 0) (.at .amap 12) (.at .int 21))
    (.int 2)) (.f2 41 (.f1 31 (.us .bytes 208 (.at .g 1) (.int 0) (.int 0) (.int 0))) (.f2 42 (.at .int 21) (.us .int 200 (.at .g 1) (.int 0) (.int 0)
    (.int 0)))))))))) (.f1 31 (.us .bytes 208 (.at .g 1) (.int 0) (.int 0) (.int 0))))
    .tt))))))))))))))))))))))))))))))))))))))))))))))))))))))))))))))))))))
theorem img_vc : vcOf Try.prog imgCx 12 13 imgCtr = imgVc := by kernel_rfl
-- END VC img
theorem sub_nil {m : List (Int × Int)} (h : m.length = 0) : m = [] := List.eq_nil_of_length_eq_zero h
theorem sub_self {m : List (Int × Int)} (h : (m.map (·.1)).Nodup) : subM m m := ⟨h, fun _ h => ⟨h, rfl⟩⟩
theorem sub_del {a m : List (Int × Int)} {k : Int} (h : subM a m) : subM (mdel a k) m := by
  refine ⟨mdel_nodup h.1, fun n hn => ?_⟩
  obtain ⟨h1, h2⟩ := (mdel_has h.1).1 hn
  rw [mdel_get h2]; exact h.2 n h1
theorem img_start {d : Dv} (hg : GoodD d) {m : List (Int × Int)} (hl : lastOk m d.w) (hm : posM m) {X : List UInt8} (hX : X = d.safe) : imgOk d X m := by
  subst hX
  refine ⟨rfl, fun n n0 n1 => ?_⟩
  have hh := (last_has hl hm n).1
  by_cases h : mhas m n = true
  · rw [if_pos h]; rfl
  · rw [if_neg h]
    unfold Dv.read
    rw [if_neg (fun hn => h (hh.2 hn))]; rfl
theorem img_step {d : Dv} (hg : GoodD d) {m left : List (Int × Int)} (hs : subM left m) (hl : lastOk m d.w) (hm : posM m) {X : List UInt8} {k : Int} (hX : imgOk d X left) (hk : mhas left k = true) :
    imgOk d (laid X (k * d.page).toNat (d.dat (d.last k))) (mdel left k) := by
  have hb := rd_big hg
  have hla := last_has hl hm k
  have hk0 := hla.1.1 (hs.2 k hk).1
  have hd := dat_len hg hk0 (last_lt d k).2
  rw [last_pg hk0] at hd
  have hin := in_page hd.2.1 hd.2.2 (Int.le_of_lt hb.1)
  have hlen := hX.1
  refine ⟨by rw [laid_len (by omega)]; exact hX.1, fun n n0 n1 => ?_⟩
  rw [pgOf_laid hb.1 (K := d.pages) (by rw [hX.1]; exact hb.2.2.2.2.1) hd.1 hd.2.1 hd.2.2 n0 n1]
  by_cases e : n = k
  · subst e
    rw [if_pos rfl, if_neg (fun h => ((mdel_has hs.1).1 h).2 rfl)]
    unfold Dv.read
    rw [if_pos hk0]
  · rw [if_neg e, hX.2 n n0 n1]
    by_cases h : mhas left n = true
    · rw [if_pos h, if_pos ((mdel_has hs.1).2 ⟨h, e⟩)]
    · rw [if_neg h, if_neg (fun h2 => h ((mdel_has hs.1).1 h2).1)]
set_option maxRecDepth 20000 in
theorem img_ok (S : Sig GG) (hS : DvSig S) : CtrOk S Try.prog 13 imgCtr := by
  refine vcOf_sound S (C := imgCx) (fuel := 12) (cx_of ⟨one_spec (by decide) (cl2_ok S), trivial⟩ ⟨⟨⟨by decide, unP_gh S hS⟩, trivial, ⟨by decide, toL_gh S hS⟩, ⟨by decide, pbL_gh S hS⟩, ⟨by decide, foP_gh S hS _ _ _⟩, trivial⟩, trivial⟩ trivial) fun ρ => ?_
  rw [img_vc]
  simp only [imgVc, co_g, dvOf_g, hS.u200, hS.u201, hS.u202, hS.u203, hS.u204, hS.u205, hS.u206, hS.u207, hS.u208, hS.u209, hS.u210, hS.u211, hS.u212, hS.u213, hS.u214, hS.u215, hS.u216, hS.u217, hS.u220, hS.u221, hS.u222, hS.u223, hS.u224, hS.u225, hS.u226, hS.u227, hS.u228, hS.u229, hS.u230, hS.u231, hS.u232, hS.u233, hS.u234, hS.u235, hS.u236, hS.u237, VC.den, SX.den, co_int, co_bool, co_bytes, co_ints, co_rows, co_map, Env.upd, p155, p153, p23, p45, p46, p47, p50, b46, b47, t46, t47, p2_45, ap1_2, ap1_30, ap1_31, ap1_32, ap1_152, ap1_153, ap1_154, ap2_40, ap2_41, ap2_42, ap2_43, ap2_45, p48_b, ap2_51i, ap2_52i, ap2_110, ap2_111, ap2_113, ap2_114, ap2_115, ap2_117, ap2_120, ap2_126, ap2_141, ap2_143, ap1_33, ap3_112, ap3_140, beq_iff_eq, Bool.not_eq_true', beq_eq_false_iff_ne, ne_eq, Bool.not_not, U.toProp_bool, U.toBool_bool, i64lo, i64hi, U.toInt_int, U.toInts_ints, U.toBytes_bytes, U.toRows_rows, U.toMap_amap, Int.toNat_zero, Nat.reduceEqDiff, reduceIte, propB_iff, leB_iff, ltB_iff, U.int.injEq, U.bool.injEq, U.bytes.injEq, U.ints.injEq, U.rows.injEq]
  generalize dvOf (U.co S .g (ρ 1)) = d
  intro i2 i3 i4 i5 i6 i7 i8 i9 i10 R M Z h1 h2 h3 h4 h5 h6 h7 h8 hg h9 h10 h11
  have hb := rd_big hg
  refine ⟨by omega, by omega, .inl h10, fun b X c q1 q2 q3 q4 r r0 => ?_⟩
  have hX : X = d.safe := by
    rw [List.take_of_length_le (by omega), List.take_of_length_le (by omega)] at q1; exact q1
  refine ⟨img_start hg h8.1 h8.2 hX, sub_self h11, fun left cur Y y1 y2 y3 => ⟨fun hz => ?_, fun k hk => ?_⟩⟩
  · have hz : left.length = 0 := by omega
    rw [sub_nil hz] at y1
    exact ⟨trivial, trivial, image_of hg y1, by omega, trivial⟩
  · have hla := last_has h8.1 h8.2 k
    have hmk := (y2.2 k hk).1
    have hk0 := hla.1.1 hmk
    have hll := last_lt d k
    rw [hla.2 hmk]
    refine ⟨by omega, by omega, fun B q0 p1 p2 p3 p4 => ?_⟩
    have hd := dat_len hg hk0 hll.2
    rw [last_pg hk0] at hd
    have hin := in_page hd.2.1 hd.2.2 (Int.le_of_lt hb.1)
    have hL : ((R.getD (d.last k).toNat []).getD (Int.toNat 2) 0) = d.page := by
      rw [← hd.1, ← p2, List.length_take]; omega
    rw [hL] at p2 ⊢
    rw [p2, imin_left (x := d.page) (by omega)]
    have hst := img_step hg y2 h8.1 h8.2 y1 hk
    have hlay := lay_eq (X := Y) (Y := d.dat (d.last k)) (p := k * d.page) (k := d.page) (c := d.page) rfl hin.1 (by omega) (by omega)
    rw [List.take_of_length_le (l := d.dat (d.last k)) (by omega)] at hlay
    have hln := lay_len (X := Y) (Y := d.dat (d.last k)) (p := k * d.page) (k := d.page) (c := d.page) (m := d.safe.length) rfl hin.1 (by omega) (by omega) y3 (by omega)
    rw [List.take_of_length_le (l := d.dat (d.last k)) (by omega)] at hln
    have hdl := mdel_len hk
    rw [hlay]
    exact ⟨⟨by omega, by omega⟩, by omega, by omega, by omega, by omega, by omega, by omega, by omega, by omega, by omega, hst, sub_del y2, hln, trivial⟩
end
end Go.Proofs.Ytlcfjjjdhdfbdaa

/- A cache: State. -/
set_option linter.unusedSimpArgs false
set_option linter.unusedVariables false
namespace Go.Proofs.Ytlcfjjjdhdfbdaa
noncomputable section
open Go.Eng
def nilM : SX := .f1 155 z0
def stSV : SV := .agg [.int .i64 (usI 257 (gA 2) z0 z0), .int .i64 (usI 256 (gA 2) z0 z0), .int .i64 (usI 291 (gA 2) nilM z0), .int .i64 (usI 292 (gA 2) nilM z0), .int .i64 (usI 258 (gA 2) z0 z0), .int .i64 (usI 259 (gA 2) z0 z0), .int .i64 (usI 260 (gA 2) z0 z0)]
/-- 0 the cache; 1 its device; 2 how it stands. -/
def stCtr : Ctr := ⟨[.int, .int, .g], [.one (.ptr (ai 0) 0)], [csC (ai 0) (ai 1) (gA 2)], [], [], stSV, [csC (ai 0) (ai 1) (gA 2)], []⟩
def stI (hm m s r : Nat) : Inv := ⟨[.amap, .ints], [], [.itr .i64 .ptr (ai hm) (mA m) (ai r) (mA 1000000) (iA 1000001), .cel (ai s) 0 [.int .i64 (usI 257 (gA 2) z0 z0), .int .i64 (usI 256 (gA 2) z0 z0), .int .i64 (usI 291 (gA 2) (mA 1000000) z0), .int .i64 (usI 292 (gA 2) (mA 1000000) z0), .int .i64 (usI 258 (gA 2) z0 z0), .int .i64 (usI 259 (gA 2) z0 z0), .int .i64 (usI 260 (gA 2) z0 z0)]],
  [usB 236 (mA 1000000) (mA m) z0], .f1 33 (mA 1000000)⟩
def stCx : Cx := { specs := [], anns := [(14, [(1, .ghost unCsC [.tmp 0]), (1, .ghost ndRC []), (4, .inv (stI 4 7 8 9)), (6, .ghost opFC [.tmp 5]), (500008, .ghost rdFC [.tmp 5]), (10, .ghost (foCsC (gA 2)) [.tmp 0])])] }
-- BEGIN VC st
def stVc : VC := (.all 3 .int (.imp (.f2 47 (.int 0) (.at .int 3)) (.all 4 .int (.all 5 .int (.all 6 .rows (.all 7 .amap (.imp (.us .bool 251 (.at .amap 7) (.at .rows
    6) (.at .g 2) (.int 0)) (.imp (.us .bool 268 (.at .g 2) (.int 0) (.int 0) (.int 0)) (.imp (.f2 45 (.f1 32 (.at .rows 6)) (.us .int 256 (.at .g 2)
    (.int 0) (.int 0) (.int 0))) (.imp (.f2 47 (.int 0) (.at .int 4)) (.imp (.us .bool 246 (.at .int 5) (.us .ints 242 (.at .rows 6) (.int 0) (.int 0)
    (.int 0)) (.int 0) (.int 0)) (.imp (.us .bool 249 (.at .int 5) (.us .ints 242 (.at .rows 6) (.int 0) (.int 0) (.int 0)) (.int 0) (.int 0)) (.all 8
    .int (.imp (.f2 47 (.int 0) (.at .int 8)) (.all 9 .int (.imp (.f2 47 (.int 0) (.at .int 9)) (.need (.us .bool 236 (.at .amap 7) (.at .amap 7) (.int
    0) (.int 0)) (.need (.f2 45 (.us .int 292 (.at .g 2) (.at .amap 7) (.int 0) (.int 0)) (.int 0)) (.need (.f2 45 (.us .int 291 (.at .g 2) (.at .amap
    7) (.int 0) (.int 0)) (.int 0)) (.need (.f2 45 (.us .int 256 (.at .g 2) (.int 0) (.int 0) (.int 0)) (.f1 33 (.at .amap 7))) (.all 10 .amap (.all 11
    .ints (.imp (.us .bool 236 (.at .amap 10) (.at .amap 7) (.int 0) (.int 0)) (.and (.imp (.f2 45 (.f1 33 (.at .amap 10)) (.int 0)) (.need (.f2 155
    (.us .ints 242 (.at .rows 6) (.int 0) (.int 0) (.int 0)) (.us .ints 242 (.at .rows 6) (.int 0) (.int 0) (.int 0))) (.need (.us .bool 274 (.at .g 2)
    (.at .g 2) (.int 0) (.int 0)) (.need (.f2 45 (.us .int 292 (.at .g 2) (.f1 155 (.int 0)) (.int 0) (.int 0)) (.us .int 292 (.at .g 2) (.at .amap 10)
    (.int 0) (.int 0))) (.need (.f2 45 (.us .int 291 (.at .g 2) (.f1 155 (.int 0)) (.int 0) (.int 0)) (.us .int 291 (.at .g 2) (.at .amap 10) (.int 0)
    (.int 0))) .tt))))) (.all 12 .int (.imp (.f2 141 (.at .amap 10) (.at .int 12)) (.need (.f2 46 (.us .int 250 (.at .rows 6) (.f3 140 (.int 0) (.at
    .amap 7) (.at .int 12)) (.int 0) (.int 0)) (.f1 32 (.at .rows 6))) (.imp (.f2 47 (.f1 31 (.us .bytes 253 (.at .g 2) (.us .int 250 (.at .rows 6)
    (.f3 140 (.int 0) (.at .amap 7) (.at .int 12)) (.int 0) (.int 0)) (.int 0) (.int 0))) (.f3 112 (.at .rows 6) (.us .int 250 (.at .rows 6) (.f3 140
    (.int 0) (.at .amap 7) (.at .int 12)) (.int 0) (.int 0)) (.int 2))) (.imp (.f2 50 (.f2 47 (.int 0) (.f3 112 (.at .rows 6) (.us .int 250 (.at .rows
    6) (.f3 140 (.int 0) (.at .amap 7) (.at .int 12)) (.int 0) (.int 0)) (.int 1))) (.f2 45 (.f1 31 (.us .bytes 253 (.at .g 2) (.us .int 250 (.at .rows
    6) (.f3 140 (.int 0) (.at .amap 7) (.at .int 12)) (.int 0) (.int 0)) (.int 0) (.int 0))) (.int 0))) (.and (.imp (.us .bool 254 (.at .g 2) (.us .int
    250 (.at .rows 6) (.f3 140 (.int 0) (.at .amap 7) (.at .int 12)) (.int 0) (.int 0)) (.int 0) (.int 0)) (.need (.f1 23 (.f2 40 (.us .int 291 (.at .g
    2) (.at .amap 10) (.int 0) (.int 0)) (.int 1))) (.need (.f2 47 (.int 0) (.us .int 250 (.at .rows 6) (.f3 140 (.int 0) (.at .amap 7) (.at .int 12))
    (.int 0) (.int 0))) (.need (.f2 45 (.f3 140 (.int 0) (.at .amap 7) (.at .int 12)) (.f3 112 (.at .rows 6) (.us .int 250 (.at .rows 6) (.f3 140 (.int
    0) (.at .amap 7) (.at .int 12)) (.int 0) (.int 0)) (.int 0))) (.and (.imp (.f2 46 (.int 0) (.us .int 255 (.at .g 2) (.us .int 250 (.at .rows 6)
    (.f3 140 (.int 0) (.at .amap 7) (.at .int 12)) (.int 0) (.int 0)) (.int 0) (.int 0))) (.need (.f1 23 (.f2 40 (.us .int 292 (.at .g 2) (.at .amap
    10) (.int 0) (.int 0)) (.int 1))) (.need (.f2 46 (.f1 33 (.f2 143 (.at .amap 10) (.at .int 12))) (.f1 33 (.at .amap 10))) (.need (.us .bool 236
    (.f2 143 (.at .amap 10) (.at .int 12)) (.at .amap 7) (.int 0) (.int 0)) (.need (.f2 45 (.us .int 292 (.at .g 2) (.f2 143 (.at .amap 10) (.at .int
    12)) (.int 0) (.int 0)) (.f2 40 (.us .int 292 (.at .g 2) (.at .amap 10) (.int 0) (.int 0)) (.int 1))) (.need (.f2 45 (.us .int 291 (.at .g 2) (.f2
    143 (.at .amap 10) (.at .int 12)) (.int 0) (.int 0)) (.f2 40 (.us .int 291 (.at .g 2) (.at .amap 10) (.int 0) (.int 0)) (.int 1))) .tt)))))) (.imp
    (.f2 47 (.us .int 255 (.at .g 2) (.us .int 250 (.at .rows 6) (.f3 140 (.int 0) (.at .amap 7) (.at .int 12)) (.int 0) (.int 0)) (.int 0) (.int 0))
    (.int 0)) (.need (.f2 46 (.f1 33 (.f2 143 (.at .amap 10) (.at .int 12))) (.f1 33 (.at .amap 10))) (.need (.us .bool 236 (.f2 143 (.at .amap 10)
    (.at .int 12)) (.at .amap 7) (.int 0) (.int 0)) (.need (.f2 45 (.us .int 292 (.at .g 2) (.f2 143 (.at .amap 10) (.at .int 12)) (.int 0) (.int 0))
    (.us .int 292 (.at .g 2) (.at .amap 10) (.int 0) (.int 0))) (.need (.f2 45 (.us .int 291 (.at .g 2) (.f2 143 (.at .amap 10) (.at .int 12)) (.int 0)
    (.int 0)) (.f2 40 (.us .int 291 (.at .g 2) (.at .amap 10) (.int 0) (.int 0)) (.int 1))) .tt)))))))))) (.imp (.f1 2 (.us .bool 254 (.at .g 2) (.us
    .int 250 (.at .rows 6) (.f3 140 (.int 0) (.at .amap 7) (.at .int 12)) (.int 0) (.int 0)) (.int 0) (.int 0))) (.need (.f2 47 (.int 0) (.us .int 250
    (.at .rows 6) (.f3 140 (.int 0) (.at .amap 7) (.at .int 12)) (.int 0) (.int 0))) (.need (.f2 45 (.f3 140 (.int 0) (.at .amap 7) (.at .int 12)) (.f3
    112 (.at .rows 6) (.us .int 250 (.at .rows 6) (.f3 140 (.int 0) (.at .amap 7) (.at .int 12)) (.int 0) (.int 0)) (.int 0))) (.and (.imp (.f2 46
    (.int 0) (.us .int 255 (.at .g 2) (.us .int 250 (.at .rows 6) (.f3 140 (.int 0) (.at .amap 7) (.at .int 12)) (.int 0) (.int 0)) (.int 0) (.int 0)))
    (.need (.f1 23 (.f2 40 (.us .int 292 (.at .g 2) (.at .amap 10) (.int 0) (.int 0)) (.int 1))) (.need (.f2 46 (.f1 33 (.f2 143 (.at .amap 10) (.at
    .int 12))) (.f1 33 (.at .amap 10))) (.need (.us .bool 236 (.f2 143 (.at .amap 10) (.at .int 12)) (.at .amap 7) (.int 0) (.int 0)) (.need (.f2 45
    (.us .int 292 (.at .g 2) (.f2 143 (.at .amap 10) (.at .int 12)) (.int 0) (.int 0)) (.f2 40 (.us .int 292 (.at .g 2) (.at .amap 10) (.int 0) (.int
    0)) (.int 1))) (.need (.f2 45 (.us .int 291 (.at .g 2) (.f2 143 (.at .amap 10) (.at .int 12)) (.int 0) (.int 0)) (.us .int 291 (.at .g 2) (.at
    .amap 10) (.int 0) (.int 0))) .tt)))))) (.imp (.f2 47 (.us .int 255 (.at .g 2) (.us .int 250 (.at .rows 6) (.f3 140 (.int 0) (.at .amap 7) (.at
    .int 12)) (.int 0) (.int 0)) (.int 0) (.int 0)) (.int 0)) (.need (.f2 46 (.f1 33 (.f2 143 (.at .amap 10) (.at .int 12))) (.f1 33 (.at .amap 10)))
    (.need (.us .bool 236 (.f2 143 (.at .amap 10) (.at .int 12)) (.at .amap 7) (.int 0) (.int 0)) (.need (.f2 45 (.us .int 292 (.at .g 2) (.f2 143 (.at
    .amap 10) (.at .int 12)) (.int 0) (.int 0)) (.us .int 292 (.at .g 2) (.at .amap 10) (.int 0) (.int 0))) (.need (.f2 45 (.us .int 291 (.at .g 2)
    (.f2 143 (.at .amap 10) (.at .int 12)) (.int 0) (.int 0)) (.us .int 291 (.at .g 2) (.at .amap 10) (.int 0) (.int 0)))
    .tt)))))))))))))))))))))))))))))))))))))))
theorem st_vc : vcOf Try.prog stCx 12 14 stCtr = stVc := by kernel_rfl
-- END VC st
-- PROOFS
theorem ap1_155 (x : U GG) : ap1 155 x = .amap [] := rfl
def cntL (P : Fr → Bool) (left : List (Int × Int)) (l : List Fr) : Nat := (l.filter fun f => P f && !mhas left f.n).length
theorem cntL_le (P : Fr → Bool) (left : List (Int × Int)) (l : List Fr) : cntL P left l ≤ l.length := List.length_filter_le _ _
theorem cntL_app (P : Fr → Bool) (left : List (Int × Int)) (a b : List Fr) : cntL P left (a ++ b) = cntL P left a + cntL P left b := by
  unfold cntL; rw [List.filter_append, List.length_append]
theorem cntL_no {P : Fr → Bool} {left : List (Int × Int)} {k : Int} (hn : (left.map (·.1)).Nodup) {l : List Fr} (h : ∀ f ∈ l, f.n ≠ k) : cntL P (mdel left k) l = cntL P left l := by
  unfold cntL
  congr 1
  refine List.filter_congr fun f hf => ?_
  have e : mhas (mdel left k) f.n = mhas left f.n := by
    cases h1 : mhas left f.n
    · cases h2 : mhas (mdel left k) f.n
      · rfl
      · rw [((mdel_has hn).1 h2).1] at h1; cases h1
    · exact (mdel_has hn).2 ⟨h1, h f hf⟩
  rw [e]
theorem cntL_step {P : Fr → Bool} {left : List (Int × Int)} {k : Int} (hn : (left.map (·.1)).Nodup) (hk : mhas left k = true) {l : List Fr} (hl : (l.map (·.n)).Nodup) {i : Nat} (hi : i < l.length) (hik : (l.getD i fr0).n = k) :
    cntL P (mdel left k) l = cntL P left l + (if P (l.getD i fr0) = true then 1 else 0) := by
  have hF := split_at (d := fr0) hi
  rw [hF] at hl
  rw [List.map_append, List.singleton_append, List.map_cons] at hl
  obtain ⟨_, h2, h3⟩ := List.nodup_append.1 hl
  rw [List.nodup_cons] at h2
  have hx : ∀ f ∈ l.take i, f.n ≠ k := fun f hf e => h3 f.n (List.mem_map.2 ⟨f, hf, rfl⟩) _ List.mem_cons_self (e.trans hik.symm)
  have hy : ∀ f ∈ l.drop (i + 1), f.n ≠ k := fun f hf e => h2.1 (List.mem_map.2 ⟨f, hf, e.trans hik.symm⟩)
  generalize hX : l.getD i fr0 = x at *
  rw [hF, cntL_app, cntL_app, cntL_app, cntL_app, cntL_no hn hx, cntL_no hn hy]
  have e1 : cntL P left [x] = 0 := by
    unfold cntL; rw [List.filter_cons, hik, hk]; cases P x <;> rfl
  have e2 : cntL P (mdel left k) [x] = if P x = true then 1 else 0 := by
    have h : mhas (mdel left k) k = false := by
      cases h : mhas (mdel left k) k
      · rfl
      · exact absurd rfl ((mdel_has hn).1 h).2
    unfold cntL; rw [List.filter_cons, hik, h]; cases P x <;> rfl
  rw [e1, e2]; omega
theorem cntL_all {P : Fr → Bool} {left : List (Int × Int)} {l : List Fr} (h : ∀ f ∈ l, mhas left f.n = true) : cntL P left l = 0 := by
  unfold cntL
  rw [List.length_eq_zero_iff, List.filter_eq_nil_iff]
  intro f hf
  rw [h f hf]; cases P f <;> decide
theorem heldOk.all {m : List (Int × Int)} {R : List (List Int)} {fr : List Fr} (h : heldOk m R fr) : ∀ f ∈ fr, mhas m f.n = true := by
  intro f hf
  rw [mhas_mem, (h.2.2.map (·.1)).mem_iff, prs_map h.1]
  exact List.mem_map.2 ⟨f, hf, rfl⟩
set_option maxRecDepth 20000 in
theorem st_ok (S : Sig GG) (hS : CsSig S) : CtrOk S Try.prog 14 stCtr := by
  refine vcOf_sound S (C := stCx) (fuel := 12) (cx_of trivial ⟨⟨⟨by decide, unCs_gh S hS⟩, ⟨by decide, ndR_gh S hS.rg⟩, trivial, ⟨by decide, opF_gh S hS⟩, ⟨by decide, rdF_gh S hS⟩, ⟨by decide, foCs_gh S hS _⟩, trivial⟩, trivial⟩ trivial) fun ρ => ?_
  rw [st_vc]
  simp only [stVc, ap1_155, ap2_143, ap1_33, hS.dv.u236, hS.u291, hS.u292, hS.u280, hS.u281, hS.u282, hS.u283, hS.u284, hS.u285, co_g, dvOf_g, hS.dv.u200, hS.dv.u201, hS.dv.u202, hS.dv.u203, hS.dv.u204, hS.dv.u205, hS.dv.u206, hS.dv.u207, hS.dv.u208, hS.dv.u209, hS.dv.u210, hS.dv.u211, hS.dv.u212, hS.dv.u213, hS.dv.u214, hS.dv.u215, hS.dv.u216, hS.dv.u217, hS.dv.u220, hS.dv.u221, hS.dv.u222, hS.dv.u223, hS.dv.u224, hS.dv.u225, hS.dv.u226, hS.dv.u227, hS.dv.u228, hS.dv.u229, hS.dv.u230, hS.dv.u231, hS.dv.u232, hS.dv.u233, hS.dv.u234, co_g, csOf_g, hS.rg.u240, hS.rg.u241, hS.rg.u242, hS.rg.u243, hS.rg.u244, hS.rg.u245, hS.rg.u246, hS.rg.u247, hS.rg.u248, hS.rg.u249, hS.u250, hS.u251, hS.u252, hS.u253, hS.u254, hS.u255, hS.u256, hS.u257, hS.u258, hS.u259, hS.u260, hS.u261, hS.u262, hS.u263, hS.u264, hS.u265, hS.u266, hS.u267, hS.u268, hS.u269, hS.u270, hS.u271, hS.u272, hS.u273, hS.u274, VC.den, SX.den, co_int, co_bool, co_bytes, co_ints, co_rows, co_map, Env.upd, p155, p153, p23, p45, p46, p47, p50, b46, b47, t46, t47, p2_45, ap1_2, ap1_30, ap1_31, ap1_32, ap1_152, ap1_153, ap1_154, ap2_40, ap2_41, ap2_42, ap2_43, ap2_45, p48_b, ap2_51i, ap2_52i, ap2_110, ap2_111, ap2_113, ap2_114, ap2_115, ap2_117, ap2_120, ap2_126, ap2_141, ap3_112, ap3_140, beq_iff_eq, Bool.not_eq_true', beq_eq_false_iff_ne, ne_eq, Bool.not_not, U.toProp_bool, U.toBool_bool, i64lo, i64hi, U.toInt_int, U.toInts_ints, U.toBytes_bytes, U.toRows_rows, U.toMap_amap, Int.toNat_zero, Nat.reduceEqDiff, reduceIte, propB_iff, leB_iff, ltB_iff, U.int.injEq, U.bool.injEq, U.bytes.injEq, U.ints.injEq, U.rows.injEq]
  generalize csOf (U.co S .g (ρ 2)) = c
  intro _ _ hm H R m hh hg hlen hpos hnd hp _ _ _ _
  have hlen' := hh.1
  have hl := hg.len
  have hf := hg.frames
  have bd : ∀ left, (c.dirN left : Int) ≤ 4096 := fun left => by have := cntL_le (fun f => f.dirty) left c.fr; have h : c.dirN left ≤ c.fr.length := this; omega
  have bp : ∀ left, (c.pinN left : Int) ≤ 4096 := fun left => by have := cntL_le (fun f => decide (0 < f.pins)) left c.fr; have h : c.pinN left ≤ c.fr.length := this; omega
  have hml := hh.len
  refine ⟨sub_self hh.nod, ?_, ?_, by omega, fun left _ hs => ⟨fun hz => ?_, fun k hk => ?_⟩⟩
  · have : c.pinN m = 0 := cntL_all hh.all
    rw [this]; rfl
  · have : c.dirN m = 0 := cntL_all hh.all
    rw [this]; rfl
  · have hz : left.length = 0 := by omega
    rw [sub_nil hz]
    exact ⟨by first | trivial | rfl, by first | trivial | rfl, by first | trivial | rfl, by first | trivial | rfl, trivial⟩
  · have hmk := hs.2 k hk
    have hj : c.idx k < c.fr.length := (hh.has k).1 hmk.1
    have hl : mget 0 m k = g0 (R.getD (c.idx k) []) := by have := hh.get (d := 0) hj; rwa [Cs.idx_n hj] at this
    have hr : rowI (mget 0 m k) R = c.idx k := by
      rw [hl, rowI_idx, ← map_getD R _ (by omega)]; exact idx_nod (List.nodup_cons.1 hnd).2 (by rw [List.length_map]; omega)
    have s1 : c.dirN (mdel left k) = c.dirN left + (if (c.at' (c.idx k : Nat)).dirty = true then 1 else 0) := cntL_step (P := fun f => f.dirty) hs.1 hk hg.nod hj (Cs.idx_n hj)
    have s2 : c.pinN (mdel left k) = c.pinN left + (if decide (0 < (c.at' (c.idx k : Nat)).pins) = true then 1 else 0) := cntL_step (P := fun f => decide (0 < f.pins)) hs.1 hk hg.nod hj (Cs.idx_n hj)
    have hdl := mdel_len hk
    have b1 := bd left
    have b2 := bp left
    simp only [hr]
    have hD0 : 0 ≤ ((c.idx k : Nat) : Int) := by omega
    have hsd := sub_del (k := k) hs
    refine ⟨by omega, fun _ _ => ⟨fun hd => ⟨by omega, by omega, hl, fun hpn => ?_, fun hpn => ?_⟩, fun hd => ⟨by omega, hl, fun hpn => ?_, fun hpn => ?_⟩⟩⟩
    · rw [if_pos hd] at s1; rw [if_pos (decide_eq_true hpn)] at s2
      exact ⟨by omega, by omega, hsd, by omega, by omega, trivial⟩
    · rw [if_pos hd] at s1; rw [if_neg (by rw [decide_eq_true_eq]; omega)] at s2
      exact ⟨by omega, hsd, by omega, by omega, trivial⟩
    · rw [if_neg (by rw [hd]; decide)] at s1; rw [if_pos (decide_eq_true hpn)] at s2
      exact ⟨by omega, by omega, hsd, by omega, by omega, trivial⟩
    · rw [if_neg (by rw [hd]; decide)] at s1; rw [if_neg (by rw [decide_eq_true_eq]; omega)] at s2
      exact ⟨by omega, hsd, by omega, by omega, trivial⟩
end
end Go.Proofs.Ytlcfjjjdhdfbdaa

/- slices.Sorted of maps.Keys: its contract, out of what the library's shelf says of it. -/
set_option linter.unusedSimpArgs false
set_option linter.unusedVariables false
namespace Go.Proofs.Ytlcfjjjdhdfbdaa
noncomputable section
open Go.Eng
open Go.RowKit (Below)
/-- 0 the block that holds the map; 1 the map; 2 its content; told: 3, 4, 5 the keys. -/
def skCtr (g : FuncId) : Ctr := ⟨[.int, .int, .amap], [.one (.cap (.fn g) (.ptr (ai 0) 0))], [.cel (ai 0) 0 [.map (ai 1)], mpC (ai 1) (mA 2)], [usB 306 (mA 2) z0 z0, eLe (.f1 33 (mA 2)) (.int 65536)], [.int, .ints, .int],
  .one (sl1 (ai 3) (lenI (iA 4)) (ai 5)), [.cel (ai 0) 0 [.map (ai 1)], mpC (ai 1) (mA 2), iAr (ai 3) (iA 4) (ai 5)], [eqS (iA 4) (usN 298 (mA 2) z0 z0), eLe (lenI (iA 4)) (ai 5)]⟩
/-- What the shelf gives. -/
def SortedAt (P : Program) (f g : FuncId) : Prop := ∃ t : TypeId, ∀ (b0 b1 : Nat) (es : Array MapEntry) (clock : Nat) (m : List (Int × Int)) (w : World), mapOk .i64 .ptr es clock m → (∀ p ∈ m, 0 ≤ p.1 ∧ p.1 < 65536) → m.length ≤ 65536 →
  b0 < w.heap.size → w.cell? ⟨b0, 0, none⟩ = some (.map (some b1)) → w.heap[b1]? = some (.map es clock) →
  Calls P f #[.func (.func g) #[] #[.pointer (some ⟨b0, 0, none⟩)]] w fun e w' => ∃ v, e = .returned v ∧ w'.ownsRow w.heap.size t 1 v m.length ((sortK (m.map (·.1))).map (Value.int .i64)) ∧ Below w.heap.size w w'
theorem sat_ext {w0 w w' : World} {H : HProp} (h : Sat w0 H w) (hb : Below w.heap.size w w') : Sat w0 H w' := by
  obtain ⟨x, hx, hi⟩ := h
  have h0 := hi.below.size
  refine ⟨x, hx, fun b o v z e => ?_, fun b o y e => ?_, hi.below.trans (hb.mono h0)⟩
  · have hlt := hi.lt e
    have q := hi.cell _ _ _ _ e
    have hk := hb.block b hlt
    refine ⟨q.1, ?_, ?_, fun hz => ?_⟩
    · have := q.2.1; unfold World.cell? at this ⊢; rw [hk]; exact this
    · have := q.2.2.1; unfold World.frozen? at this ⊢; rw [hk]; exact this
    · rw [hk]; exact q.2.2.2 hz
  · have hlt := hi.lt e
    have q := hi.obj _ _ _ e
    exact ⟨q.1, q.2.1, by rw [hb.block b hlt]; exact q.2.2.1, q.2.2.2⟩
/-- A row that came. -/
theorem sat_came {w0 w w' : World} {H : HProp} (h : Sat w0 H w) (hb : Below w.heap.size w w') {g : Nat} (hg : w.heap.size ≤ g) {cur : Array Value} {t : TypeId} (hc : w'.heap[g]? = some (.cells cur t (0, 0))) : Sat w0 (star (row g 0 cur.toList true) H) w' := by
  have h2 := sat_ext h hb
  obtain ⟨x, hx, hi⟩ := h
  obtain ⟨hn, hcell⟩ : (∀ j, x g j = none) ∧ True := by
    refine ⟨fun j => ?_, trivial⟩
    cases e : x g j with
    | none => rfl
    | some r => exact absurd (hi.lt e) (by omega)
  have hi2 : In w0 x w' := by
    have h0 := hi.below.size
    refine ⟨fun b o v z e => ?_, fun b o y e => ?_, hi.below.trans (hb.mono h0)⟩
    · have hlt := hi.lt e
      have q := hi.cell _ _ _ _ e
      have hk := hb.block b hlt
      refine ⟨q.1, ?_, ?_, fun hz => ?_⟩
      · have := q.2.1; unfold World.cell? at this ⊢; rw [hk]; exact this
      · have := q.2.2.1; unfold World.frozen? at this ⊢; rw [hk]; exact this
      · rw [hk]; exact q.2.2.2 hz
    · have hlt := hi.lt e
      have q := hi.obj _ _ _ e
      exact ⟨q.1, q.2.1, by rw [hb.block b hlt]; exact q.2.2.1, q.2.2.2⟩
  have h0 := hi.below.size
  refine ⟨Hl.un (rowH g 0 cur.toList true) x, ⟨_, x, ?_, rfl, rfl, hx⟩, fun b o v z e => ?_, fun b o y e => ?_, hi2.below⟩
  · intro i j
    by_cases hig : i = g
    · right; rw [hig]; exact hn j
    · left; unfold rowH; rw [if_neg (fun q => hig q.1)]
  · unfold Hl.un at e
    cases hr : rowH g 0 cur.toList true b o with
    | none => rw [hr] at e; exact hi2.cell _ _ _ _ e
    | some r =>
      rw [hr] at e
      injection e with e
      subst e
      unfold rowH at hr
      by_cases hbg : b = g ∧ 0 ≤ o
      · rw [if_pos hbg] at hr
        obtain ⟨rfl, _⟩ := hbg
        rw [Nat.sub_zero] at hr
        cases hq : cur.toList[o]? with
        | none => rw [hq] at hr; cases hr
        | some u =>
          rw [hq] at hr
          injection hr with hr
          injection hr with e1 e2
          subst e1
          refine ⟨by omega, ?_, ?_, fun _ => ⟨_, _, hc⟩⟩
          · unfold World.cell?; simp only [hc]
            rw [Array.getElem?_toList] at hq
            exact hq
          · unfold World.frozen?; simp [hc]
      · rw [if_neg hbg] at hr; cases hr
  · unfold Hl.un at e
    cases hr : rowH g 0 cur.toList true b o with
    | none => rw [hr] at e; exact hi2.obj _ _ _ e
    | some r =>
      rw [hr] at e
      injection e with e
      subst e
      unfold rowH at hr
      split at hr
      · cases hq : cur.toList[o - 0]? with
        | none => rw [hq] at hr; cases hr
        | some u => rw [hq] at hr; injection hr with hr; cases hr
      · cases hr
def env3 (ρ : Go.Eng.Env GG) (a : Int) (l : List Int) (c : Int) : Go.Eng.Env GG := ((ρ.upd 3 (.int a)).upd 4 (.ints l)).upd 5 (.int c)
theorem env3_ext (ρ : Go.Eng.Env GG) (a : Int) (l : List Int) (c : Int) : Ext 3 ρ (env3 ρ a l c) := fun i hi => by
  unfold env3 Go.Eng.Env.upd; rw [if_neg (by omega), if_neg (by omega), if_neg (by omega)]
theorem env3_0 (ρ : Go.Eng.Env GG) (a : Int) (l : List Int) (c : Int) : env3 ρ a l c 0 = ρ 0 := env3_ext ρ a l c 0 (by decide)
theorem env3_1 (ρ : Go.Eng.Env GG) (a : Int) (l : List Int) (c : Int) : env3 ρ a l c 1 = ρ 1 := env3_ext ρ a l c 1 (by decide)
theorem env3_2 (ρ : Go.Eng.Env GG) (a : Int) (l : List Int) (c : Int) : env3 ρ a l c 2 = ρ 2 := env3_ext ρ a l c 2 (by decide)
theorem env3_3 (ρ : Go.Eng.Env GG) (a : Int) (l : List Int) (c : Int) : env3 ρ a l c 3 = .int a := rfl
theorem env3_4 (ρ : Go.Eng.Env GG) (a : Int) (l : List Int) (c : Int) : env3 ρ a l c 4 = .ints l := rfl
theorem env3_5 (ρ : Go.Eng.Env GG) (a : Int) (l : List Int) (c : Int) : env3 ρ a l c 5 = .int c := rfl
theorem sk_of (S : Sig GG) (hS : CsSig S) {P : Program} {f g : FuncId} (hk : SortedAt P f g) : CtrOk S P f (skCtr g) := by
  obtain ⟨t, hk⟩ := hk
  intro ch w0 F ρ w xs hx hq hsat
  obtain ⟨v, rfl, hv⟩ : ∃ v, xs = [v] ∧ SV.R S ρ (.one (.cap (.fn g) (.ptr (ai 0) 0))) v := by
    match xs, hx with
    | [v], hx => exact ⟨v, rfl, hx.1⟩
  have hv := R_one S ρ hv
  have q1 := hq (usB 306 (mA 2) z0 z0) (by simp [skCtr])
  have q2 := hq (eLe (.f1 33 (mA 2)) (.int 65536)) (by simp [skCtr])
  rw [eLe_den] at q2
  simp only [skCtr, hpDen_cons, star_assoc, Ch.den, mpC] at hsat
  rw [SX.den_wc, SX.den_wc, SX.den_wc] at hsat
  simp only [usB, SX.den, hS.u306, co_bool, co_int, co_map, U.toProp_bool, U.toBool_bool, propB_iff, U.toMap_amap, U.toInt_int, ai, mA] at q1 q2 hsat
  have q2 : ((ρ 2).toMap.length : Int) ≤ 65536 := q2
  obtain ⟨g1, hsat⟩ := sat_and hsat
  rw [star_left_comm] at hsat
  obtain ⟨g2, hsat⟩ := sat_and hsat
  obtain ⟨es, hsat⟩ := sat_ex hsat
  obtain ⟨clock, hsat⟩ := sat_ex hsat
  obtain ⟨g3, hsat⟩ := sat_and hsat
  have g1' : 0 ≤ (ρ 0).toInt ∨ [SC.map (SX.at Srt.int 1)] = [] := g1
  have hb0 : 0 ≤ (ρ 0).toInt := g1.resolve_right (by simp)
  subst hv
  have hvd : SC.den S ρ (.cap (.fn g) (.ptr (ai 0) 0)) = .func (.func g) #[] #[.pointer (some ⟨(ρ 0).toInt.toNat, 0, none⟩)] := by
    simp only [SC.den, SX.den, ai, co_int, U.toInt_int]
    rw [if_neg (by omega)]; rfl
  rw [hvd]
  obtain ⟨x, ⟨a, r, d, rfl, rfl, a2, r2, d2, rfl, rfl, h3⟩, hi⟩ := id hsat
  have hobj : w.heap[(ρ 1).toInt.toNat]? = some (.map es clock) := by
    have e : Hl.un (objH (ρ 1).toInt.toNat (.map es clock)) (Hl.un (rowH (ρ 0).toInt.toNat 0 [SC.den (S.wc ch) ρ (.map (.at .int 1))] true) r2) (ρ 1).toInt.toNat 0 = some (.obj (.map es clock)) := by
      unfold Hl.un objH; simp
    exact (hi.obj _ _ _ e).2.2.1
  have hrow := hsat
  rw [star_left_comm] at hrow
  have hld := (hrow.load (i := 0) (by simp)).1
  have hlt := hrow.row_lt (by simp)
  have hmv : SC.den (S.wc ch) ρ (.map (.at .int 1)) = .map (some (ρ 1).toInt.toNat) := by
    simp only [SC.den, SX.den, co_int, U.toInt_int]
    exact congrArg Value.map (if_neg (show ¬ (ρ 1).toInt < 0 by omega))
  simp only [List.map_cons, List.map_nil, List.getElem_cons_zero] at hld
  rw [hmv] at hld
  refine (hk _ _ es clock (ρ 2).toMap w g3 q1 (by omega) hlt.2 hld hobj).mono ?_
  rintro e w' ⟨v, rfl, ⟨hl, hor⟩, hbel⟩
  rcases hor with ⟨rfl, hz⟩ | ⟨gb, cap, cur, rfl, hgb, hcur, hnc, hcm, hcs, htk⟩
  · have hnil : (sortK ((ρ 2).toMap.map (·.1))) = [] := by
      rw [List.length_map, hz, Nat.zero_mul] at hl; exact List.eq_nil_of_length_eq_zero hl
    refine ⟨env3 ρ (-1) [] 0, _, env3_ext ρ _ _ _, rfl, .inr ?_, ?_, ?_⟩
    · simp only [SV.den, SC.den, sl1, slC, lenI, ai, iA, z0, SX.den, co_int, co_ints, ap1_30, env3_3, env3_4, env3_5, U.toInt_int, U.toInts_ints]; rfl
    · have h2 := sat_ext hsat hbel
      simp only [skCtr, hpDen_cons, star_assoc, Ch.den, mpC, iAr]
      rw [SX.den_wc, SX.den_wc, SX.den_wc, SX.den_wc, SX.den_wc, SX.den_wc]
      simp only [List.map_cons, List.map_nil, SC.den, SX.den, SX.den_wc, ai, iA, mA, co_int, co_ints, co_map, U.toInt_int, U.toInts_ints, U.toMap_amap, env3_0, env3_1, env3_2, env3_3, env3_4, env3_5] at h2 ⊢
      refine sat_and_mk g1' ?_
      rw [star_left_comm]
      refine sat_and_mk g2 (sat_ex_mk es (sat_ex_mk clock (sat_and_mk g3 ?_)))
      rw [star_left_comm (row _ _ _ _), star_left_comm (objAt _ _)]
      refine sat_ex_mk [] (sat_and_mk rfl (sat_and_mk (Int.le_refl _) (sat_and_mk (.inr rfl) ?_)))
      rw [show (En.vals iE (U.ints [] : U GG) ++ []) = [] from rfl, row_nil, emp_star]
      exact h2
    · intro x hx
      simp only [skCtr, List.mem_cons, List.not_mem_nil, or_false] at hx
      rcases hx with rfl | rfl
      · simp only [eqS, usN, SX.den, iA, mA, hS.u298, co_ints, co_map, env3_2, env3_4, U.toInts_ints, U.toMap_amap, p155, hnil]
      · rw [eLe_den]
        simp only [SX.den, iA, ai, lenI, co_int, co_ints, env3_4, env3_5, ap1_30, U.toInt_int, U.toInts_ints]; exact Int.le_refl _
  · have hll : (sortK ((ρ 2).toMap.map (·.1))).length = (ρ 2).toMap.length := by rw [List.length_map, Nat.mul_one] at hl; exact hl
    refine ⟨env3 ρ gb (sortK ((ρ 2).toMap.map (·.1))) cap, _, env3_ext ρ _ _ _, rfl, .inr ?_, ?_, ?_⟩
    · show Value.slice (some ⟨gb, 0, none⟩) (ρ 2).toMap.length cap = SC.den S (env3 ρ gb (sortK ((ρ 2).toMap.map (·.1))) cap) (sl1 (ai 3) (lenI (iA 4)) (ai 5))
      simp only [SC.den, sl1, slC, lenI, ai, iA, z0, SX.den, co_int, co_ints, ap1_30, env3_3, env3_4, env3_5, U.toInt_int, U.toInts_ints]
      show _ = Value.slice (if ((gb : Nat) : Int) < 0 then none else some ⟨((gb : Nat) : Int).toNat, Int.toNat 0 + (if ((cap : Nat) : Int) = 0 then (0 : Int) else 0).toNat * 1, none⟩) (((sortK ((ρ 2).toMap.map (·.1))).length : Nat) : Int).toNat ((cap : Nat) : Int).toNat
      rw [if_neg (by omega), hll]
      simp
    · have h2 := sat_came hsat hbel hgb hcur
      simp only [skCtr, hpDen_cons, star_assoc, Ch.den, mpC, iAr]
      rw [SX.den_wc, SX.den_wc, SX.den_wc, SX.den_wc, SX.den_wc, SX.den_wc]
      simp only [List.map_cons, List.map_nil, SC.den, SX.den, SX.den_wc, ai, iA, mA, co_int, co_ints, co_map, U.toInt_int, U.toInts_ints, U.toMap_amap, env3_0, env3_1, env3_2, env3_3, env3_4, env3_5] at h2 ⊢
      refine sat_and_mk g1' ?_
      rw [star_left_comm]
      refine sat_and_mk g2 (sat_ex_mk es (sat_ex_mk clock (sat_and_mk g3 ?_)))
      rw [star_left_comm (row _ _ _ _), star_left_comm (objAt _ _)]
      have hvs : cur.toList = En.vals iE (U.ints (sortK ((ρ 2).toMap.map (·.1))) : U GG) ++ cur.toList.drop ((ρ 2).toMap.length * 1) := by
        conv => lhs; rw [← List.take_append_drop ((ρ 2).toMap.length * 1) cur.toList, htk]
        rfl
      refine sat_ex_mk (cur.toList.drop ((ρ 2).toMap.length * 1)) (sat_and_mk ?_ (sat_and_mk (show 0 ≤ ((cap : Nat) : Int) by omega) (sat_and_mk (.inl (show 0 ≤ ((gb : Nat) : Int) by omega)) ?_)))
      · rw [← List.length_append, ← hvs]
        show cur.toList.length = cap * 1
        rw [Array.length_toList]; exact hcs
      · rw [← hvs]
        exact h2
    · intro x hx
      simp only [skCtr, List.mem_cons, List.not_mem_nil, or_false] at hx
      rcases hx with rfl | rfl
      · simp only [eqS, usN, SX.den, iA, mA, hS.u298, co_ints, co_map, env3_2, env3_4, U.toInts_ints, U.toMap_amap, p155]
      · rw [eLe_den]
        simp only [SX.den, iA, ai, lenI, co_int, co_ints, env3_4, env3_5, ap1_30, U.toInt_int, U.toInts_ints]; rw [hll]; omega
end
end Go.Proofs.Ytlcfjjjdhdfbdaa

/- A frame, shut as clean. -/
set_option linter.unusedSimpArgs false
set_option linter.unusedVariables false
namespace Go.Proofs.Ytlcfjjjdhdfbdaa
noncomputable section
open Go.Eng
def clQ (g i bb bc : SX) : List SC := [.int .i64 (usI 252 g i z0), sl1 bb (lenB (usY 253 g i z0)) bc, .bool (.bool false), .int .i64 (usI 255 g i z0)]
def clFC : Ctr := ⟨[.int, .int, .rows, .g], [.one (.ptr (ai 0) 0)], [frO (ai 1) (rA 2) (gA 3), .cel (ai 0) 2 (clQ (gA 3) (ai 1) (nt (rA 2) (ai 1) 1) (nt (rA 2) (ai 1) 2)), bAr (nt (rA 2) (ai 1) 1) (usY 253 (gA 3) (ai 1) z0) (nt (rA 2) (ai 1) 2)],
  [eLe z0 (ai 1), eLt (ai 1) (lenR (rA 2)), .f2 45 (ai 0) (nt (rA 2) (ai 1) 0), .f2 45 (lenR (rA 2)) (usI 256 (gA 3) z0 z0)], [], .tup [], [frC (rA 2) (usG 293 (gA 3) (ai 1) z0)], []⟩
theorem clQ_den {T : Sig GG} (hT : CsSig T) (ρ : Go.Eng.Env GG) (w0 : World) (c g i bb bc : SX) : (Ch.cel c 2 (clQ g i bb bc)).den T ρ w0 =
    frD [(c.den T ρ).toInt, (bb.den T ρ).toInt, (bc.den T ρ).toInt] { (csOf (g.den T ρ)).at' (i.den T ρ).toInt with dirty := false } := by
  unfold clQ
  rw [fcel_den]
  simp only [usI, usY, usB, z0, lenB, SX.den, hT.u252, hT.u253, hT.u254, hT.u255, co_int, co_bytes, co_bool, U.toInt_int, U.toBool_bool, U.toBytes_bytes, ap1_31]
  rfl
theorem clF_gh (S : Sig GG) (hS : CsSig S) : GhOk S clFC := by
  refine gh_mk S fun T w0 ρ h hu hp hd hr hpre => ⟨ρ, Ext.refl _ _, ?_, (fun x hx => nomatch hx)⟩
  have hT := hS.of hu hp hd
  have e1 : hpDen T ρ w0 clFC.pre = star (T.prd 71 w0 ((cons1 (one1 (ai 1)) (rA 2)).den T ρ) ((gA 3).den T ρ)) (star ((Ch.cel (ai 0) 2 (clQ (gA 3) (ai 1) (nt (rA 2) (ai 1) 1) (nt (rA 2) (ai 1) 2))).den T ρ w0) (star (arrDen T .bytes ((nt (rA 2) (ai 1) 1).den T ρ) ((usY 253 (gA 3) (ai 1) z0).den T ρ) ((nt (rA 2) (ai 1) 2).den T ρ)) emp)) := rfl
  have e2 : hpDen T ρ w0 clFC.post = star (T.prd 70 w0 ((rA 2).den T ρ) ((usG 293 (gA 3) (ai 1) z0).den T ρ)) emp := rfl
  have r0 := hr (eLe z0 (ai 1)) (by simp [clFC])
  have r1 := hr (eLt (ai 1) (lenR (rA 2))) (by simp [clFC])
  have r2 := hr (.f2 45 (ai 0) (nt (rA 2) (ai 1) 0)) (by simp [clFC])
  have r3 := hr (.f2 45 (lenR (rA 2)) (usI 256 (gA 3) z0 z0)) (by simp [clFC])
  simp only [lenR, usI, SX.den, hT.u256, p45, ap1_32, U.toInt_int, co_int] at r3
  have r3 : ((ρ 2).toRows.length : Int) = ((csOf ((gA 3).den T ρ)).fr.length : Nat) := r3
  rw [eLe_den] at r0
  rw [eLt_den] at r1
  have r0 : 0 ≤ (ρ 1).toInt := r0
  have r1 : (ρ 1).toInt < ((ρ 2).toRows.length : Nat) := r1
  have hn : ∀ k, ((nt (rA 2) (ai 1) k).den T ρ) = .int (((ρ 2).toRows.getD (ρ 1).toInt.toNat []).getD k 0) := by
    intro k
    show (ap3 112 ((rA 2).den T ρ) ((ai 1).den T ρ) (U.int (k : Int))) = _
    rw [ap3_112]; rfl
  have r2 : (ρ 0).toInt = g0 ((ρ 2).toRows.getD (ρ 1).toInt.toNat []) := by
    simp only [SX.den, hn, p45, U.toInt_int, ai, co_int] at r2; exact r2
  have hb : ((usY 253 (gA 3) (ai 1) z0).den T ρ) = .bytes ((csOf ((gA 3).den T ρ)).at' (ρ 1).toInt).b := by
    simp only [usY, SX.den, hT.u253, co_bytes, co_int, U.toInt_int, U.toBytes_bytes, ai]
  have k2 : ((cons1 (one1 (ai 1)) (rA 2)).den T ρ).toRows = [(ρ 1).toInt] :: (ρ 2).toRows := rfl
  rw [e1, star_emp, clQ_den hT, hn, hn, hb, hT.p71, k2, kp71_mk] at hpre
  have hcl : csOf ((usG 293 (gA 3) (ai 1) z0).den T ρ) = (csOf ((gA 3).den T ρ)).clean (ρ 1).toInt := by
    simp only [usG, SX.den, hT.u293, co_g, csOf_g, co_int, U.toInt_int, ai]
  rw [e2, star_emp, hT.p70, hcl]
  have k1 : ((rA 2).den T ρ).toRows = (ρ 2).toRows := rfl
  have k3 : ((ai 1).den T ρ).toInt = (ρ 1).toInt := rfl
  rw [k1]
  rw [k3] at hpre
  generalize csOf ((gA 3).den T ρ) = s at *
  have hlen : (ρ 2).toRows.length = s.fr.length := by
    omega
  have hi : (ρ 1).toInt.toNat < s.fr.length := by omega
  have hcf : (s.clean (ρ 1).toInt).fr = s.fr.take (ρ 1).toInt.toNat ++ { s.at' (ρ 1).toInt with dirty := false } :: s.fr.drop ((ρ 1).toInt.toNat + 1) := rfl
  have hlc : (s.clean (ρ 1).toInt).fr.length = s.fr.length := by
    rw [hcf]; simp only [List.length_append, List.length_take, List.length_cons, List.length_drop]; omega
  rw [frH_pick (m := (s.clean (ρ 1).toInt).fr) (by omega) (show (ρ 1).toInt.toNat < _ by omega)]
  have t1 : (s.clean (ρ 1).toInt).fr.take (ρ 1).toInt.toNat = s.fr.take (ρ 1).toInt.toNat := by
    rw [hcf, List.take_append_of_le_length (by rw [List.length_take]; omega), List.take_take, Nat.min_self]
  have t2 : (s.clean (ρ 1).toInt).fr.drop ((ρ 1).toInt.toNat + 1) = s.fr.drop ((ρ 1).toInt.toNat + 1) := by
    rw [hcf, List.append_cons, List.drop_append_of_le_length (by simp only [List.length_append, List.length_take, List.length_singleton]; omega), List.drop_of_length_le (by simp only [List.length_append, List.length_take, List.length_singleton]; omega), List.nil_append]
  have t3 : (s.clean (ρ 1).toInt).fr.getD (ρ 1).toInt.toNat fr0 = { s.at' (ρ 1).toInt with dirty := false } := by
    rw [hcf, List.getD_eq_getElem?_getD, List.getElem?_append_right (by rw [List.length_take]; omega), List.length_take, Nat.min_eq_left (by omega), Nat.sub_self]; rfl
  rw [t1, t2, t3]
  have ea : frD [((ai 0).den T ρ).toInt, (U.int (((ρ 2).toRows.getD (ρ 1).toInt.toNat []).getD 1 0) : U GG).toInt, (U.int (((ρ 2).toRows.getD (ρ 1).toInt.toNat []).getD 2 0) : U GG).toInt] { s.at' (ρ 1).toInt with dirty := false } = frD ((ρ 2).toRows.getD (ρ 1).toInt.toNat []) { s.at' (ρ 1).toInt with dirty := false } :=
    frD_row (show g0 [(ρ 0).toInt, _, _] = _ from r2) rfl rfl _
  rw [ea] at hpre
  exact hpre
end
end Go.Proofs.Ytlcfjjjdhdfbdaa

/- A fresh device, a fresh row, a fresh cache: shut. -/
set_option linter.unusedSimpArgs false
set_option linter.unusedVariables false
namespace Go.Proofs.Ytlcfjjjdhdfbdaa
noncomputable section
open Go.Eng
/-- Nothing is loose, nothing is kept in a fall. -/
def frPC : Ctr := ⟨[.int, .int, .int, .int, .bytes], [.one (.int .i64 (ai 0)), .one (sl1 (ai 1) (ai 2) (ai 3))], [bAr (ai 1) (bA 4) (ai 3)], [], [], .tup [],
  [bAr (ai 1) (bA 4) (ai 3), lsA (.int (-1)) nilR z0, iAr (.int (-1)) (.f1 152 z0) z0, lsC z0 nilR (usG 307 (ai 0) (bA 4) z0)], []⟩
/-- A row without things. -/
def nlRC : Ctr := ⟨[.int], [.one (.ptr (ai 0) 0)], [ndC (ai 0) (ai 0) (ai 0)], [], [], .tup [], [rgC (ai 0) (.f1 152 z0)], []⟩
/-- No frame. -/
def emFC : Ctr := ⟨[.int], [.one (.int .i64 (ai 0))], [], [], [], .tup [], [frC nilR (usG 304 (ai 0) z0 z0)], []⟩
theorem frP_gh (S : Sig GG) (hS : CsSig S) : GhOk S frPC := by
  refine gh_mk S fun T w0 ρ h hu hp hd hr hpre => ⟨ρ, Ext.refl _ _, ?_, by intro x hx; exact nomatch hx⟩
  have hT := hS.of hu hp hd
  have e1 : hpDen T ρ w0 frPC.pre = star ((bAr (ai 1) (bA 4) (ai 3)).den T ρ w0) emp := rfl
  have e2 : hpDen T ρ w0 frPC.post = star ((bAr (ai 1) (bA 4) (ai 3)).den T ρ w0) (star (rAD lsT (-1) [] 0) (star (iAD (-1) [] 0) (star (T.prd 51 w0 ((cons1 (one1 z0) nilR).den T ρ) ((usG 307 (ai 0) (bA 4) z0).den T ρ)) emp))) := rfl
  rw [e1] at hpre
  have k1 : ((cons1 (one1 z0) nilR).den T ρ).toRows = [[0]] := rfl
  have k2 : (dvOf ((usG 307 (ai 0) (bA 4) z0).den T ρ)).w = [] := by
    simp only [usG, SX.den, hT.u307, co_g, dvOf_g]; rfl
  rw [e2, lsT, rAD_emp, emp_star, iAD_emp, emp_star, star_emp, hT.dv.p51, k1, kp51_mk, k2]
  exact hpre
theorem nlR_gh (S : Sig GG) (hS : CsSig S) : GhOk S nlRC := by
  refine gh_mk S fun T w0 ρ h hu hp hd hr hpre => ⟨ρ, Ext.refl _ _, ?_, by intro x hx; exact nomatch hx⟩
  have hT := hS.of hu hp hd
  have e1 : hpDen T ρ w0 nlRC.pre = star ((ndC (ai 0) (ai 0) (ai 0)).den T ρ w0) emp := rfl
  have e2 : hpDen T ρ w0 nlRC.post = star (T.prd 60 w0 ((ai 0).den T ρ) ((SX.f1 152 z0).den T ρ)) emp := rfl
  rw [e1, star_emp, ndC_den] at hpre
  rw [e2, star_emp, hT.rg.p60]
  show ringH _ [] h
  unfold ringH ringC dlS dlS
  rw [star_emp]
  exact hpre
theorem emF_gh (S : Sig GG) (hS : CsSig S) : GhOk S emFC := by
  refine gh_mk S fun T w0 ρ h hu hp hd hr hpre => ⟨ρ, Ext.refl _ _, ?_, by intro x hx; exact nomatch hx⟩
  have hT := hS.of hu hp hd
  have e1 : hpDen T ρ w0 emFC.pre = emp := rfl
  have e2 : hpDen T ρ w0 emFC.post = star (T.prd 70 w0 (nilR.den T ρ) ((usG 304 (ai 0) z0 z0).den T ρ)) emp := rfl
  have k2 : (csOf ((usG 304 (ai 0) z0 z0).den T ρ)).fr = [] := by
    simp only [usG, SX.den, hT.u304, co_g, csOf_g]; rfl
  rw [e1] at hpre
  rw [e2, star_emp, hT.p70, k2]
  exact hpre
end
end Go.Proofs.Ytlcfjjjdhdfbdaa

/- plate.New with pages of 512 bytes; filled. -/
set_option linter.unusedSimpArgs false
set_option linter.unusedVariables false
set_option maxRecDepth 20000
namespace Go.Proofs.Ytlcfjjjdhdfbdaa
noncomputable section
open Go.Eng
/-- 0 how many pages; told: 1 the device. -/
def pnCtr : Ctr := ⟨[.int], [.one (.int .i64 (.int 512)), .one (.int .i64 (ai 0))], [], [eLe (.int 4) (ai 0), eLe (ai 0) (.int 65536), eLe (ai 0) (.int 131072)], [.int], .one (.ptr (ai 1) 0), [plC (ai 1) (usG 309 (ai 0) z0 z0)], [eLe z0 (ai 1)]⟩
def pnCx : Cx := { specs := [], anns := [(5, [(500003, .ghost frPC [.tmp 22, .tmp 26]), (500003, .ghost (foPC [] [] (usG 234 (gA 1) z0 z0)) [.tmp 29])])] }
/-- 0 the byte; told: 1, 3 the page, 2 what it holds. -/
def fdCtr : Ctr := ⟨[.int], [.one (.int .i64 (ai 0))], [], [], [.int, .bytes, .int], .one (sl1 (ai 1) (lenB (bA 2)) (ai 3)), [bAr (ai 1) (bA 2) (ai 3)], [eqS (bA 2) (usY 308 (ai 0) z0 z0), eLe z0 (ai 1), eLe (lenB (bA 2)) (ai 3)]⟩
def fdI (b c : Nat) : Inv := ⟨[.int, .bytes], [(4, .one (.int .i64 (di 0)))], [bAr (ai b) (bA 1000001) (.int 512)], [eLe z0 (di 0), eLe (di 0) (.int 512), usB 310 (bA 1000001) (ai 0) (di 0)], .f2 41 (.int 512) (di 0)⟩
def fdCx : Cx := { specs := [], anns := [(8, [(5, .inv (fdI 1 512))])] }
-- BEGIN VC pn
def pnVc : VC := (.imp (.f2 47 (.int 4) (.at .int 0)) (.imp (.f2 47 (.at .int 0) (.int 65536)) (.imp (.f2 47 (.at .int 0) (.int 131072)) (.and (.imp (.f2 47 (.int 4)
    (.at .int 0)) (.and (.imp (.f2 47 (.at .int 0) (.int 65536)) (.and .tt (.imp (.f2 47 (.at .int 0) (.int 131072)) (.need (.f1 23 (.f2 42 (.int 512)
    (.at .int 0))) (.need (.f2 47 (.int 0) (.f2 42 (.int 512) (.at .int 0))) (.need (.f2 47 (.f2 42 (.int 512) (.at .int 0)) (.f2 42 (.int 512) (.at
    .int 0))) (.need (.f2 47 (.f2 42 (.f2 42 (.int 512) (.at .int 0)) (.int 1)) (.int 140737488355328)) (.all 1 .int (.imp (.f2 47 (.int 0) (.at .int
    1)) (.all 2 .int (.imp (.f2 47 (.int 0) (.at .int 2)) (.all 3 .int (.imp (.f2 47 (.int 0) (.at .int 3)) (.need (.f2 155 (.f1 154 (.int 0)) (.f1 154
    (.int 0))) (.need (.f2 153 (.f1 152 (.int 0)) (.us .ints 209 (.us .g 234 (.us .g 307 (.int 512) (.f2 126 (.f2 42 (.int 512) (.at .int 0)) (.int 0))
    (.int 0) (.int 0)) (.int 0) (.int 0) (.int 0)) (.int 0) (.int 0) (.int 0))) (.need (.us .bool 214 (.f1 155 (.int 0)) (.us .g 234 (.us .g 307 (.int
    512) (.f2 126 (.f2 42 (.int 512) (.at .int 0)) (.int 0)) (.int 0) (.int 0)) (.int 0) (.int 0) (.int 0)) (.int 0) (.int 0)) (.need (.us .bool 215
    (.us .g 234 (.us .g 307 (.int 512) (.f2 126 (.f2 42 (.int 512) (.at .int 0)) (.int 0)) (.int 0) (.int 0)) (.int 0) (.int 0) (.int 0)) (.int 0)
    (.int 0) (.int 0)) (.need (.us .bool 216 (.us .g 234 (.us .g 307 (.int 512) (.f2 126 (.f2 42 (.int 512) (.at .int 0)) (.int 0)) (.int 0) (.int 0))
    (.int 0) (.int 0) (.int 0)) (.us .g 307 (.int 512) (.f2 126 (.f2 42 (.int 512) (.at .int 0)) (.int 0)) (.int 0) (.int 0)) (.int 0) (.int 0)) (.need
    (.f2 155 (.us .bytes 208 (.us .g 234 (.us .g 307 (.int 512) (.f2 126 (.f2 42 (.int 512) (.at .int 0)) (.int 0)) (.int 0) (.int 0)) (.int 0) (.int
    0) (.int 0)) (.int 0) (.int 0) (.int 0)) (.f2 126 (.f2 42 (.int 512) (.at .int 0)) (.int 0))) (.need (.f2 45 (.us .int 207 (.us .g 234 (.us .g 307
    (.int 512) (.f2 126 (.f2 42 (.int 512) (.at .int 0)) (.int 0)) (.int 0) (.int 0)) (.int 0) (.int 0) (.int 0)) (.int 0) (.int 0) (.int 0)) (.int 0))
    (.need (.f2 45 (.us .int 206 (.us .g 234 (.us .g 307 (.int 512) (.f2 126 (.f2 42 (.int 512) (.at .int 0)) (.int 0)) (.int 0) (.int 0)) (.int 0)
    (.int 0) (.int 0)) (.int 0) (.int 0) (.int 0)) (.int 0)) (.need (.f2 45 (.us .int 205 (.us .g 234 (.us .g 307 (.int 512) (.f2 126 (.f2 42 (.int
    512) (.at .int 0)) (.int 0)) (.int 0) (.int 0)) (.int 0) (.int 0) (.int 0)) (.int 0) (.int 0) (.int 0)) (.int 0)) (.need (.f2 45 (.us .int 204 (.us
    .g 234 (.us .g 307 (.int 512) (.f2 126 (.f2 42 (.int 512) (.at .int 0)) (.int 0)) (.int 0) (.int 0)) (.int 0) (.int 0) (.int 0)) (.int 0) (.int 0)
    (.int 0)) (.int 0)) (.need (.f2 45 (.us .int 203 (.us .g 234 (.us .g 307 (.int 512) (.f2 126 (.f2 42 (.int 512) (.at .int 0)) (.int 0)) (.int 0)
    (.int 0)) (.int 0) (.int 0) (.int 0)) (.int 0) (.int 0) (.int 0)) (.int 0)) (.need (.f2 45 (.us .int 202 (.us .g 234 (.us .g 307 (.int 512) (.f2
    126 (.f2 42 (.int 512) (.at .int 0)) (.int 0)) (.int 0) (.int 0)) (.int 0) (.int 0) (.int 0)) (.int 0) (.int 0) (.int 0)) (.int (-(0 + 1)))) (.need
    (.f2 155 (.us .bool 201 (.us .g 234 (.us .g 307 (.int 512) (.f2 126 (.f2 42 (.int 512) (.at .int 0)) (.int 0)) (.int 0) (.int 0)) (.int 0) (.int 0)
    (.int 0)) (.int 0) (.int 0) (.int 0)) (.bool .false)) (.need (.f2 45 (.f1 31 (.us .bytes 208 (.us .g 234 (.us .g 307 (.int 512) (.f2 126 (.f2 42
    (.int 512) (.at .int 0)) (.int 0)) (.int 0) (.int 0)) (.int 0) (.int 0) (.int 0)) (.int 0) (.int 0) (.int 0))) (.f2 42 (.int 512) (.at .int 0)))
    (.need (.f2 45 (.us .int 200 (.us .g 234 (.us .g 307 (.int 512) (.f2 126 (.f2 42 (.int 512) (.at .int 0)) (.int 0)) (.int 0) (.int 0)) (.int 0)
    (.int 0) (.int 0)) (.int 0) (.int 0) (.int 0)) (.int 512)) (.need (.f2 155 (.us .g 309 (.at .int 0) (.int 0) (.int 0) (.int 0)) (.us .g 234 (.us .g
    307 (.int 512) (.f2 126 (.f2 42 (.int 512) (.at .int 0)) (.int 0)) (.int 0) (.int 0)) (.int 0) (.int 0) (.int 0))) .tt)))))))))))))))))))))))))))))
    .tt)) .tt))))
theorem pn_vc : vcOf Try.prog pnCx 12 5 pnCtr = pnVc := by kernel_rfl
-- END VC pn
-- BEGIN VC fd
def fdVc : VC := (.and (.imp (.f2 46 (.at .int 0) (.int 0)) (.all 1 .int (.imp (.f2 47 (.int 0) (.at .int 1)) (.need (.f2 155 (.byt ((UInt8.ofNat 1) :: ((UInt8.ofNat 2)
    :: ((UInt8.ofNat 3) :: [])))) (.us .bytes 308 (.at .int 0) (.int 0) (.int 0) (.int 0))) .tt)))) (.imp (.f2 47 (.int 0) (.at .int 0)) (.all 1 .int
    (.imp (.f2 47 (.int 0) (.at .int 1)) (.need (.us .bool 310 (.byt ((UInt8.ofNat 0) :: ((UInt8.ofNat 0) :: ((UInt8.ofNat 0) :: ((UInt8.ofNat 0) ::
    ((UInt8.ofNat 0) :: ((UInt8.ofNat 0) :: ((UInt8.ofNat 0) :: ((UInt8.ofNat 0) :: ((UInt8.ofNat 0) :: ((UInt8.ofNat 0) :: ((UInt8.ofNat 0) ::
    ((UInt8.ofNat 0) :: ((UInt8.ofNat 0) :: ((UInt8.ofNat 0) :: ((UInt8.ofNat 0) :: ((UInt8.ofNat 0) :: ((UInt8.ofNat 0) :: ((UInt8.ofNat 0) ::
    ((UInt8.ofNat 0) :: ((UInt8.ofNat 0) :: ((UInt8.ofNat 0) :: ((UInt8.ofNat 0) :: ((UInt8.ofNat 0) :: ((UInt8.ofNat 0) :: ((UInt8.ofNat 0) ::
    ((UInt8.ofNat 0) :: ((UInt8.ofNat 0) :: ((UInt8.ofNat 0) :: ((UInt8.ofNat 0) :: ((UInt8.ofNat 0) :: ((UInt8.ofNat 0) :: ((UInt8.ofNat 0) ::
    ((UInt8.ofNat 0) :: ((UInt8.ofNat 0) :: ((UInt8.ofNat 0) :: ((UInt8.ofNat 0) :: ((UInt8.ofNat 0) :: ((UInt8.ofNat 0) :: ((UInt8.ofNat 0) ::
    ((UInt8.ofNat 0) :: ((UInt8.ofNat 0) :: ((UInt8.ofNat 0) :: ((UInt8.ofNat 0) :: ((UInt8.ofNat 0) :: ((UInt8.ofNat 0) :: ((UInt8.ofNat 0) ::
    ((UInt8.ofNat 0) :: ((UInt8.ofNat 0) :: ((UInt8.ofNat 0) :: ((UInt8.ofNat 0) :: ((UInt8.ofNat 0) :: ((UInt8.ofNat 0) :: ((UInt8.ofNat 0) ::
    ((UInt8.ofNat 0) :: ((UInt8.ofNat 0) :: ((UInt8.ofNat 0) :: ((UInt8.ofNat 0) :: ((UInt8.ofNat 0) :: ((UInt8.ofNat 0) :: ((UInt8.ofNat 0) ::
    ((UInt8.ofNat 0) :: ((UInt8.ofNat 0) :: ((UInt8.ofNat 0) :: ((UInt8.ofNat 0) :: ((UInt8.ofNat 0) :: ((UInt8.ofNat 0) :: ((UInt8.ofNat 0) ::
    ((UInt8.ofNat 0) :: ((UInt8.ofNat 0) :: ((UInt8.ofNat 0) :: ((UInt8.ofNat 0) :: ((UInt8.ofNat 0) :: ((UInt8.ofNat 0) :: ((UInt8.ofNat 0) ::
    ((UInt8.ofNat 0) :: ((UInt8.ofNat 0) :: ((UInt8.ofNat 0) :: ((UInt8.ofNat 0) :: ((UInt8.ofNat 0) :: ((UInt8.ofNat 0) :: ((UInt8.ofNat 0) ::
    ((UInt8.ofNat 0) :: ((UInt8.ofNat 0) :: ((UInt8.ofNat 0) :: ((UInt8.ofNat 0) :: ((UInt8.ofNat 0) :: ((UInt8.ofNat 0) :: ((UInt8.ofNat 0) ::
    ((UInt8.ofNat 0) :: ((UInt8.ofNat 0) :: ((UInt8.ofNat 0) :: ((UInt8.ofNat 0) :: ((UInt8.ofNat 0) :: ((UInt8.ofNat 0) :: ((UInt8.ofNat 0) ::
    ((UInt8.ofNat 0) :: ((UInt8.ofNat 0) :: ((UInt8.ofNat 0) :: ((UInt8.ofNat 0) :: ((UInt8.ofNat 0) :: ((UInt8.ofNat 0) :: ((UInt8.ofNat 0) ::
    ((UInt8.ofNat 0) :: ((UInt8.ofNat 0) :: ((UInt8.ofNat 0) :: ((UInt8.ofNat 0) :: ((UInt8.ofNat 0) :: ((UInt8.ofNat 0) :: ((UInt8.ofNat 0) ::
    ((UInt8.ofNat 0) :: ((UInt8.ofNat 0) :: ((UInt8.ofNat 0) :: ((UInt8.ofNat 0) :: ((UInt8.ofNat 0) :: ((UInt8.ofNat 0) :: ((UInt8.ofNat 0) ::
    ((UInt8.ofNat 0) :: ((UInt8.ofNat 0) :: ((UInt8.ofNat 0) :: ((UInt8.ofNat 0) :: ((UInt8.ofNat 0) :: ((UInt8.ofNat 0) :: ((UInt8.ofNat 0) ::
    ((UInt8.ofNat 0) :: ((UInt8.ofNat 0) :: ((UInt8.ofNat 0) :: ((UInt8.ofNat 0) :: ((UInt8.ofNat 0) :: ((UInt8.ofNat 0) :: ((UInt8.ofNat 0) ::
    ((UInt8.ofNat 0) :: ((UInt8.ofNat 0) :: ((UInt8.ofNat 0) :: ((UInt8.ofNat 0) :: ((UInt8.ofNat 0) :: ((UInt8.ofNat 0) :: ((UInt8.ofNat 0) ::
    ((UInt8.ofNat 0) :: ((UInt8.ofNat 0) :: ((UInt8.ofNat 0) :: ((UInt8.ofNat 0) :: ((UInt8.ofNat 0) :: ((UInt8.ofNat 0) :: ((UInt8.ofNat 0) ::
    ((UInt8.ofNat 0) :: ((UInt8.ofNat 0) :: ((UInt8.ofNat 0) :: ((UInt8.ofNat 0) :: ((UInt8.ofNat 0) :: ((UInt8.ofNat 0) :: ((UInt8.ofNat 0) ::
    ((UInt8.ofNat 0) :: ((UInt8.ofNat 0) :: ((UInt8.ofNat 0) :: ((UInt8.ofNat 0) :: ((UInt8.ofNat 0) :: ((UInt8.ofNat 0) :: ((UInt8.ofNat 0) ::
    ((UInt8.ofNat 0) :: ((UInt8.ofNat 0) :: ((UInt8.ofNat 0) :: ((UInt8.ofNat 0) :: ((UInt8.ofNat 0) :: ((UInt8.ofNat 0) :: ((UInt8.ofNat 0) ::
    ((UInt8.ofNat 0) :: ((UInt8.ofNat 0) :: ((UInt8.ofNat 0) :: ((UInt8.ofNat 0) :: ((UInt8.ofNat 0) :: ((UInt8.ofNat 0) :: ((UInt8.ofNat 0) ::
    ((UInt8.ofNat 0) :: ((UInt8.ofNat 0) :: ((UInt8.ofNat 0) :: ((UInt8.ofNat 0) :: ((UInt8.ofNat 0) :: ((UInt8.ofNat 0) :: ((UInt8.ofNat 0) ::
    ((UInt8.ofNat 0) :: ((UInt8.ofNat 0) :: ((UInt8.ofNat 0) :: ((UInt8.ofNat 0) :: ((UInt8.ofNat 0) :: ((UInt8.ofNat 0) :: ((UInt8.ofNat 0) ::
    ((UInt8.ofNat 0) :: ((UInt8.ofNat 0) :: ((UInt8.ofNat 0) :: ((UInt8.ofNat 0) :: ((UInt8.ofNat 0) :: ((UInt8.ofNat 0) :: ((UInt8.ofNat 0) ::
    ((UInt8.ofNat 0) :: ((UInt8.ofNat 0) :: ((UInt8.ofNat 0) :: ((UInt8.ofNat 0) :: ((UInt8.ofNat 0) :: ((UInt8.ofNat 0) :: ((UInt8.ofNat 0) ::
    ((UInt8.ofNat 0) :: ((UInt8.ofNat 0) :: ((UInt8.ofNat 0) :: ((UInt8.ofNat 0) :: ((UInt8.ofNat 0) :: ((UInt8.ofNat 0) :: ((UInt8.ofNat 0) ::
    ((UInt8.ofNat 0) :: ((UInt8.ofNat 0) :: ((UInt8.ofNat 0) :: ((UInt8.ofNat 0) :: ((UInt8.ofNat 0) :: ((UInt8.ofNat 0) :: ((UInt8.ofNat 0) ::
    ((UInt8.ofNat 0) :: ((UInt8.ofNat 0) :: ((UInt8.ofNat 0) :: ((UInt8.ofNat 0) :: ((UInt8.ofNat 0) :: ((UInt8.ofNat 0) :: ((UInt8.ofNat 0) ::
    ((UInt8.ofNat 0) :: ((UInt8.ofNat 0) :: ((UInt8.ofNat 0) :: ((UInt8.ofNat 0) :: ((UInt8.ofNat 0) :: ((UInt8.ofNat 0) :: ((UInt8.ofNat 0) ::
    ((UInt8.ofNat 0) :: ((UInt8.ofNat 0) :: ((UInt8.ofNat 0) :: ((UInt8.ofNat 0) :: ((UInt8.ofNat 0) :: ((UInt8.ofNat 0) :: ((UInt8.ofNat 0) ::
    ((UInt8.ofNat 0) :: ((UInt8.ofNat 0) :: ((UInt8.ofNat 0) :: ((UInt8.ofNat 0) :: ((UInt8.ofNat 0) :: ((UInt8.ofNat 0) :: ((UInt8.ofNat 0) ::
    ((UInt8.ofNat 0) :: ((UInt8.ofNat 0) :: ((UInt8.ofNat 0) :: ((UInt8.ofNat 0) :: ((UInt8.ofNat 0) :: ((UInt8.ofNat 0) :: ((UInt8.ofNat 0) ::
    ((UInt8.ofNat 0) :: ((UInt8.ofNat 0) :: ((UInt8.ofNat 0) :: ((UInt8.ofNat 0) :: ((UInt8.ofNat 0) :: ((UInt8.ofNat 0) :: ((UInt8.ofNat 0) ::
    ((UInt8.ofNat 0) :: ((UInt8.ofNat 0) :: ((UInt8.ofNat 0) :: ((UInt8.ofNat 0) :: ((UInt8.ofNat 0) :: ((UInt8.ofNat 0) :: ((UInt8.ofNat 0) ::
    ((UInt8.ofNat 0) :: ((UInt8.ofNat 0) :: ((UInt8.ofNat 0) :: ((UInt8.ofNat 0) :: ((UInt8.ofNat 0) :: ((UInt8.ofNat 0) :: ((UInt8.ofNat 0) ::
    ((UInt8.ofNat 0) :: ((UInt8.ofNat 0) :: ((UInt8.ofNat 0) :: ((UInt8.ofNat 0) :: ((UInt8.ofNat 0) :: ((UInt8.ofNat 0) :: ((UInt8.ofNat 0) ::
    ((UInt8.ofNat 0) :: ((UInt8.ofNat 0) :: ((UInt8.ofNat 0) :: ((UInt8.ofNat 0) :: ((UInt8.ofNat 0) :: ((UInt8.ofNat 0) :: ((UInt8.ofNat 0) ::
    ((UInt8.ofNat 0) :: ((UInt8.ofNat 0) :: ((UInt8.ofNat 0) :: ((UInt8.ofNat 0) :: ((UInt8.ofNat 0) :: ((UInt8.ofNat 0) :: ((UInt8.ofNat 0) ::
    ((UInt8.ofNat 0) :: ((UInt8.ofNat 0) :: ((UInt8.ofNat 0) :: ((UInt8.ofNat 0) :: ((UInt8.ofNat 0) :: ((UInt8.ofNat 0) :: ((UInt8.ofNat 0) ::
    ((UInt8.ofNat 0) :: ((UInt8.ofNat 0) :: ((UInt8.ofNat 0) :: ((UInt8.ofNat 0) :: ((UInt8.ofNat 0) :: ((UInt8.ofNat 0) :: ((UInt8.ofNat 0) ::
    ((UInt8.ofNat 0) :: ((UInt8.ofNat 0) :: ((UInt8.ofNat 0) :: ((UInt8.ofNat 0) :: ((UInt8.ofNat 0) :: ((UInt8.ofNat 0) :: ((UInt8.ofNat 0) ::
    ((UInt8.ofNat 0) :: ((UInt8.ofNat 0) :: ((UInt8.ofNat 0) :: ((UInt8.ofNat 0) :: ((UInt8.ofNat 0) :: ((UInt8.ofNat 0) :: ((UInt8.ofNat 0) ::
    ((UInt8.ofNat 0) :: ((UInt8.ofNat 0) :: ((UInt8.ofNat 0) :: ((UInt8.ofNat 0) :: ((UInt8.ofNat 0) :: ((UInt8.ofNat 0) :: ((UInt8.ofNat 0) ::
    ((UInt8.ofNat 0) :: ((UInt8.ofNat 0) :: ((UInt8.ofNat 0) :: ((UInt8.ofNat 0) :: ((UInt8.ofNat 0) :: ((UInt8.ofNat 0) :: ((UInt8.ofNat 0) ::
    ((UInt8.ofNat 0) :: ((UInt8.ofNat 0) :: ((UInt8.ofNat 0) :: ((UInt8.ofNat 0) :: ((UInt8.ofNat 0) :: ((UInt8.ofNat 0) :: ((UInt8.ofNat 0) ::
    ((UInt8.ofNat 0) :: ((UInt8.ofNat 0) :: ((UInt8.ofNat 0) :: ((UInt8.ofNat 0) :: ((UInt8.ofNat 0) :: ((UInt8.ofNat 0) :: ((UInt8.ofNat 0) ::
    ((UInt8.ofNat 0) :: ((UInt8.ofNat 0) :: ((UInt8.ofNat 0) :: ((UInt8.ofNat 0) :: ((UInt8.ofNat 0) :: ((UInt8.ofNat 0) :: ((UInt8.ofNat 0) ::
    ((UInt8.ofNat 0) :: ((UInt8.ofNat 0) :: ((UInt8.ofNat 0) :: ((UInt8.ofNat 0) :: ((UInt8.ofNat 0) :: ((UInt8.ofNat 0) :: ((UInt8.ofNat 0) ::
    ((UInt8.ofNat 0) :: ((UInt8.ofNat 0) :: ((UInt8.ofNat 0) :: ((UInt8.ofNat 0) :: ((UInt8.ofNat 0) :: ((UInt8.ofNat 0) :: ((UInt8.ofNat 0) ::
    ((UInt8.ofNat 0) :: ((UInt8.ofNat 0) :: ((UInt8.ofNat 0) :: ((UInt8.ofNat 0) :: ((UInt8.ofNat 0) :: ((UInt8.ofNat 0) :: ((UInt8.ofNat 0) ::
    ((UInt8.ofNat 0) :: ((UInt8.ofNat 0) :: ((UInt8.ofNat 0) :: ((UInt8.ofNat 0) :: ((UInt8.ofNat 0) :: ((UInt8.ofNat 0) :: ((UInt8.ofNat 0) ::
    ((UInt8.ofNat 0) :: ((UInt8.ofNat 0) :: ((UInt8.ofNat 0) :: ((UInt8.ofNat 0) :: ((UInt8.ofNat 0) :: ((UInt8.ofNat 0) :: ((UInt8.ofNat 0) ::
    ((UInt8.ofNat 0) :: ((UInt8.ofNat 0) :: ((UInt8.ofNat 0) :: ((UInt8.ofNat 0) :: ((UInt8.ofNat 0) :: ((UInt8.ofNat 0) :: ((UInt8.ofNat 0) ::
    ((UInt8.ofNat 0) :: ((UInt8.ofNat 0) :: ((UInt8.ofNat 0) :: ((UInt8.ofNat 0) :: ((UInt8.ofNat 0) :: ((UInt8.ofNat 0) :: ((UInt8.ofNat 0) ::
    ((UInt8.ofNat 0) :: ((UInt8.ofNat 0) :: ((UInt8.ofNat 0) :: ((UInt8.ofNat 0) :: ((UInt8.ofNat 0) :: ((UInt8.ofNat 0) :: ((UInt8.ofNat 0) ::
    ((UInt8.ofNat 0) :: ((UInt8.ofNat 0) :: ((UInt8.ofNat 0) :: ((UInt8.ofNat 0) :: ((UInt8.ofNat 0) :: ((UInt8.ofNat 0) :: ((UInt8.ofNat 0) ::
    ((UInt8.ofNat 0) :: ((UInt8.ofNat 0) :: ((UInt8.ofNat 0) :: ((UInt8.ofNat 0) :: ((UInt8.ofNat 0) :: ((UInt8.ofNat 0) :: ((UInt8.ofNat 0) ::
    ((UInt8.ofNat 0) :: ((UInt8.ofNat 0) :: ((UInt8.ofNat 0) :: ((UInt8.ofNat 0) :: ((UInt8.ofNat 0) :: ((UInt8.ofNat 0) :: ((UInt8.ofNat 0) ::
    ((UInt8.ofNat 0) :: ((UInt8.ofNat 0) :: ((UInt8.ofNat 0) :: ((UInt8.ofNat 0) :: ((UInt8.ofNat 0) :: ((UInt8.ofNat 0) :: ((UInt8.ofNat 0) ::
    ((UInt8.ofNat 0) :: ((UInt8.ofNat 0) :: ((UInt8.ofNat 0) :: ((UInt8.ofNat 0) :: ((UInt8.ofNat 0) :: ((UInt8.ofNat 0) :: ((UInt8.ofNat 0) ::
    ((UInt8.ofNat 0) :: ((UInt8.ofNat 0) :: ((UInt8.ofNat 0) :: ((UInt8.ofNat 0) :: ((UInt8.ofNat 0) :: ((UInt8.ofNat 0) :: ((UInt8.ofNat 0) ::
    ((UInt8.ofNat 0) :: ((UInt8.ofNat 0) :: ((UInt8.ofNat 0) :: ((UInt8.ofNat 0) :: ((UInt8.ofNat 0) :: ((UInt8.ofNat 0) :: ((UInt8.ofNat 0) ::
    ((UInt8.ofNat 0) :: ((UInt8.ofNat 0) :: ((UInt8.ofNat 0) :: ((UInt8.ofNat 0) :: ((UInt8.ofNat 0) :: ((UInt8.ofNat 0) :: ((UInt8.ofNat 0) ::
    ((UInt8.ofNat 0) :: ((UInt8.ofNat 0) :: ((UInt8.ofNat 0) :: ((UInt8.ofNat 0) :: ((UInt8.ofNat 0) :: ((UInt8.ofNat 0) :: ((UInt8.ofNat 0) ::
    ((UInt8.ofNat 0) :: ((UInt8.ofNat 0) :: ((UInt8.ofNat 0) :: ((UInt8.ofNat 0) :: ((UInt8.ofNat 0) :: ((UInt8.ofNat 0) :: ((UInt8.ofNat 0) ::
    ((UInt8.ofNat 0) :: ((UInt8.ofNat 0) :: ((UInt8.ofNat 0) :: ((UInt8.ofNat 0) :: ((UInt8.ofNat 0) :: ((UInt8.ofNat 0) :: ((UInt8.ofNat 0) ::
    ((UInt8.ofNat 0) :: ((UInt8.ofNat 0) :: ((UInt8.ofNat 0) :: ((UInt8.ofNat 0) :: ((UInt8.ofNat 0) :: ((UInt8.ofNat 0) :: ((UInt8.ofNat 0) ::
    ((UInt8.ofNat 0) :: ((UInt8.ofNat 0) :: ((UInt8.ofNat 0) :: ((UInt8.ofNat 0) :: ((UInt8.ofNat 0) :: ((UInt8.ofNat 0) :: ((UInt8.ofNat 0) ::
    ((UInt8.ofNat 0) :: ((UInt8.ofNat 0) :: ((UInt8.ofNat 0) :: ((UInt8.ofNat 0) :: ((UInt8.ofNat 0) :: ((UInt8.ofNat 0) :: ((UInt8.ofNat 0) ::
    ((UInt8.ofNat 0) :: ((UInt8.ofNat 0) :: ((UInt8.ofNat 0) :: ((UInt8.ofNat 0) ::
    [])))))))))))))))))))))))))))))))))))))))))))))))))))))))))))))))))))))))))))))))))))))))))))))))))))))))))))))))))))))))))))))))))))))))))))))))))))))))))))))))))))))))))))))))))))))))))))))))))))))))))))))))))))))))))))))))))))))))))))))))))))))))))))))))))))))))))))))))))))))))))))))))))))))))))))))))))))))))))))))))))))))))))))))))))))))))))))))))))))))))))))))))))))))))))))))))))))))))))))))))))))))))))))))))))))))))))))))))))))))))))))))))))))))))))))))))))))))))))))))))))))))))))))))))))))))))))))))))))
    (.at .int 0) (.int 0) (.int 0)) (.all 2 .int (.all 3 .bytes (.imp (.f2 47 (.int 0) (.at .int 2)) (.imp (.f2 47 (.at .int 2) (.int 512)) (.imp (.us
    .bool 310 (.at .bytes 3) (.at .int 0) (.at .int 2) (.int 0)) (.and (.imp (.f2 46 (.at .int 2) (.int 512)) (.need (.f2 46 (.at .int 2) (.f1 31 (.at
    .bytes 3))) (.need (.f1 23 (.f2 40 (.at .int 2) (.int 1))) (.need (.f2 47 (.int 0) (.f2 41 (.int 512) (.f2 40 (.at .int 2) (.int 1)))) (.need (.f2
    46 (.f2 41 (.int 512) (.f2 40 (.at .int 2) (.int 1))) (.f2 41 (.int 512) (.at .int 2))) (.need (.f2 47 (.int 0) (.f2 40 (.at .int 2) (.int 1)))
    (.need (.f2 47 (.f2 40 (.at .int 2) (.int 1)) (.int 512)) (.need (.us .bool 310 (.f3 131 (.at .bytes 3) (.at .int 2) (.f1 14 (.at .int 0))) (.at
    .int 0) (.f2 40 (.at .int 2) (.int 1)) (.int 0)) .tt)))))))) (.imp (.f2 47 (.int 512) (.at .int 2)) (.need (.f2 155 (.at .bytes 3) (.us .bytes 308
    (.at .int 0) (.int 0) (.int 0) (.int 0))) (.need (.f2 47 (.f1 31 (.at .bytes 3)) (.int 512)) (.need (.f2 45 (.f1 31 (.at .bytes 3)) (.int 512))
    .tt)))))))))))))))
theorem fd_vc : vcOf Try.prog fdCx 12 8 fdCtr = fdVc := by kernel_rfl
-- END VC fd
-- PROOFS
theorem dvNew_good {n : Int} (h1 : 4 ≤ n) (h2 : n ≤ 65536) : GoodD (dvNew n) :=
  ⟨rfl, ⟨n.toNat, by omega, by omega, by
    show (List.replicate (512 * n.toNat) 0).length = n.toNat * 512 ∧ (List.replicate (512 * n.toNat) 0).length ≤ 67108864
    rw [List.length_replicate]; omega⟩, fun p hp => (nomatch hp), ⟨Int.le_refl (-1), show (-1 : Int) ≤ 9223372036854775807 by decide⟩, ⟨Int.le_refl 0, Int.le_refl 0, Int.le_refl 0⟩⟩
theorem pn_ok (S : Sig GG) (hS : CsSig S) : CtrOk S Try.prog 5 pnCtr := by
  refine vcOf_sound S (C := pnCx) (fuel := 12) (cx_of trivial ⟨⟨⟨by decide, frP_gh S hS⟩, ⟨by decide, foP_gh S hS.dv _ _ _⟩, trivial⟩, trivial⟩ trivial) fun ρ => ?_
  rw [pn_vc]
  simp only [pnVc, ap1_155, ap1_33, hS.u307, hS.u309, hS.u280, hS.u281, hS.u282, hS.u283, hS.u284, hS.u285, co_g, dvOf_g, hS.dv.u200, hS.dv.u201, hS.dv.u202, hS.dv.u203, hS.dv.u204, hS.dv.u205, hS.dv.u206, hS.dv.u207, hS.dv.u208, hS.dv.u209, hS.dv.u210, hS.dv.u211, hS.dv.u212, hS.dv.u213, hS.dv.u214, hS.dv.u215, hS.dv.u216, hS.dv.u217, hS.dv.u220, hS.dv.u221, hS.dv.u222, hS.dv.u223, hS.dv.u224, hS.dv.u225, hS.dv.u226, hS.dv.u227, hS.dv.u228, hS.dv.u229, hS.dv.u230, hS.dv.u231, hS.dv.u232, hS.dv.u233, hS.dv.u234, co_g, csOf_g, hS.rg.u240, hS.rg.u241, hS.rg.u242, hS.rg.u243, hS.rg.u244, hS.rg.u245, hS.rg.u246, hS.rg.u247, hS.rg.u248, hS.rg.u249, hS.u250, hS.u251, hS.u252, hS.u253, hS.u254, hS.u255, hS.u256, hS.u257, hS.u258, hS.u259, hS.u260, hS.u261, hS.u262, hS.u263, hS.u264, hS.u265, hS.u266, hS.u267, hS.u268, hS.u269, hS.u270, hS.u271, hS.u272, hS.u273, hS.u274, VC.den, SX.den, co_int, co_bool, co_bytes, co_ints, co_rows, co_map, Env.upd, p155, p153, p23, p45, p46, p47, p50, b46, b47, t46, t47, p2_45, ap1_2, ap1_30, ap1_31, ap1_32, ap1_152, ap1_153, ap1_154, ap2_40, ap2_41, ap2_42, ap2_43, ap2_45, p48_b, ap2_51i, ap2_52i, ap2_110, ap2_111, ap2_113, ap2_114, ap2_115, ap2_117, ap2_120, ap2_126, ap2_141, ap3_112, ap3_140, beq_iff_eq, Bool.not_eq_true', beq_eq_false_iff_ne, ne_eq, Bool.not_not, U.toProp_bool, U.toBool_bool, i64lo, i64hi, U.toInt_int, U.toInts_ints, U.toBytes_bytes, U.toRows_rows, U.toMap_amap, Int.toNat_zero, Nat.reduceEqDiff, reduceIte, propB_iff, leB_iff, ltB_iff, U.int.injEq, U.bool.injEq, U.bytes.injEq, U.ints.injEq, U.rows.injEq]
  generalize (ρ 0).toInt = n
  intro h1 h2 h3
  have e : dvOn 512 (List.replicate (512 * n).toNat (UInt8.ofNat 0)) = dvNew n := by
    unfold dvNew
    rw [show (512 * n).toNat = 512 * n.toNat by omega]; rfl
  have hs : (dvNew n).safe = List.replicate (512 * n).toNat (UInt8.ofNat 0) := by rw [← e]; rfl
  simp only [e]
  refine ⟨fun _ => ⟨fun _ => ⟨trivial, fun _ => ⟨by omega, by omega, by omega, by omega, fun b b0 c c0 d d0 => ⟨trivial, rfl, ⟨fun _ => rfl, fun p hp => nomatch hp⟩, dvNew_good h1 h2, trivial, hs, rfl, rfl, rfl, rfl, rfl, rfl, rfl, by rw [hs, List.length_replicate]; omega, rfl, by first | trivial | rfl, trivial⟩⟩⟩, trivial⟩, trivial⟩
theorem fill_step {y : List UInt8} {x i : Int} (h : fillS y x i) (h0 : 0 ≤ i) (h1 : i < 512) : fillS (y.set i.toNat (UInt8.ofNat (x % 256).toNat)) x (i + 1) := by
  obtain ⟨a, b⟩ := h
  refine ⟨by rw [List.length_set]; exact a, ?_⟩
  rw [show (i + 1).toNat = i.toNat + 1 by omega, List.take_add_one, List.take_set_of_le (Nat.le_refl _), b, List.getElem?_set_self (by omega), List.replicate_succ']; rfl
theorem fd_ok (S : Sig GG) (hS : CsSig S) : CtrOk S Try.prog 8 fdCtr := by
  refine vcOf_sound S (C := fdCx) (fuel := 12) (cx_of trivial ⟨⟨trivial, trivial⟩, trivial⟩ trivial) fun ρ => ?_
  rw [fd_vc]
  simp only [fdVc, hS.u308, hS.u310, hS.u280, hS.u281, hS.u282, hS.u283, hS.u284, hS.u285, co_g, dvOf_g, hS.dv.u200, hS.dv.u201, hS.dv.u202, hS.dv.u203, hS.dv.u204, hS.dv.u205, hS.dv.u206, hS.dv.u207, hS.dv.u208, hS.dv.u209, hS.dv.u210, hS.dv.u211, hS.dv.u212, hS.dv.u213, hS.dv.u214, hS.dv.u215, hS.dv.u216, hS.dv.u217, hS.dv.u220, hS.dv.u221, hS.dv.u222, hS.dv.u223, hS.dv.u224, hS.dv.u225, hS.dv.u226, hS.dv.u227, hS.dv.u228, hS.dv.u229, hS.dv.u230, hS.dv.u231, hS.dv.u232, hS.dv.u233, hS.dv.u234, co_g, csOf_g, hS.rg.u240, hS.rg.u241, hS.rg.u242, hS.rg.u243, hS.rg.u244, hS.rg.u245, hS.rg.u246, hS.rg.u247, hS.rg.u248, hS.rg.u249, hS.u250, hS.u251, hS.u252, hS.u253, hS.u254, hS.u255, hS.u256, hS.u257, hS.u258, hS.u259, hS.u260, hS.u261, hS.u262, hS.u263, hS.u264, hS.u265, hS.u266, hS.u267, hS.u268, hS.u269, hS.u270, hS.u271, hS.u272, hS.u273, hS.u274, VC.den, SX.den, co_int, co_bool, co_bytes, co_ints, co_rows, co_map, Env.upd, p155, p153, p23, p45, p46, p47, p50, b46, b47, t46, t47, p2_45, ap1_2, ap1_30, ap1_31, ap1_32, ap1_152, ap1_153, ap1_154, ap2_40, ap2_41, ap2_42, ap2_43, ap2_45, p48_b, ap2_51i, ap2_52i, ap2_110, ap2_111, ap2_113, ap2_114, ap2_115, ap2_117, ap2_120, ap2_126, ap2_141, ap3_112, ap3_140, beq_iff_eq, Bool.not_eq_true', beq_eq_false_iff_ne, ne_eq, Bool.not_not, U.toProp_bool, U.toBool_bool, i64lo, i64hi, U.toInt_int, U.toInts_ints, U.toBytes_bytes, U.toRows_rows, U.toMap_amap, Int.toNat_zero, Nat.reduceEqDiff, reduceIte, propB_iff, leB_iff, ltB_iff, U.int.injEq, U.bool.injEq, U.bytes.injEq, U.ints.injEq, U.rows.injEq]
  generalize (ρ 0).toInt = n
  refine ⟨fun hn b hb => ⟨(if_pos hn).symm, trivial⟩, fun hn b hb => ⟨⟨rfl, rfl⟩, fun i Y i0 i1 hY => ⟨fun hl => ?_, fun hl => ?_⟩⟩⟩
  · have h := fill_step hY i0 hl
    have e : (ap3 131 (U.bytes Y) (U.int i) (ap1 14 (U.int n : U GG))).toBytes = Y.set i.toNat (UInt8.ofNat (n % 256).toNat) := rfl
    rw [e]
    have hl2 := hY.1
    exact ⟨by omega, by omega, by omega, by omega, by omega, by omega, h, trivial⟩
  · have hi : i = 512 := by omega
    obtain ⟨a, b⟩ := hY
    subst hi
    refine ⟨?_, by omega, by omega, trivial⟩
    unfold filledB
    rw [if_neg (by omega)]
    rw [show ((512 : Int)).toNat = 512 from rfl, List.take_of_length_le (by omega)] at b
    exact b
end
end Go.Proofs.Ytlcfjjjdhdfbdaa

/- A cache: Flush. -/
set_option linter.unusedSimpArgs false
set_option linter.unusedVariables false
namespace Go.Proofs.Ytlcfjjjdhdfbdaa
noncomputable section
open Go.Eng
def flushS : List (Nat × List Ctr) := [(26, [skCtr 37]), (28, [writeCtr])]
def flK : SX := usN 297 (gA 2) z0 z0
/-- 0 the cache; 1 its device; 2, 3 how they stand. -/
def flCtr : Ctr := ⟨[.int, .int, .g, .g], [.one (.ptr (ai 0) 0)], [csC (ai 0) (ai 1) (gA 2), plC (ai 1) (gA 3)], [eLe (usI 206 (gA 3) z0 z0) (.int 2305843009213693952), eLe (usI 211 (gA 3) z0 z0) (.int 549755813888), eLe (.f1 30 (usN 209 (gA 3) z0 z0)) (.int 140737488355328), usB 305 (gA 2) z0 z0], [],
  .one (.int .i64 (usI 296 (gA 2) (gA 3) flK)), [csC (ai 0) (ai 1) (usG 294 (gA 2) (gA 3) flK), plC (ai 1) (usG 295 (gA 2) (gA 3) flK)], []⟩
def flT : SX := tkI flK (di 0)
def flI (R : Nat) : Inv := ⟨[.int], [(14, .one (.int .i64 (di 0)))], [frC (rA R) (usG 294 (gA 2) (gA 3) flT), plC (ai 1) (usG 295 (gA 2) (gA 3) flT)], [eLe z0 (di 0), eLe (di 0) (lenI flK), .f2 45 (usI 296 (gA 2) (gA 3) flT) z0], .f2 41 (lenI flK) (di 0)⟩
def flCx : Cx := { specs := flushS, anns := [(12, [(0, .ghost nrPC []), (1, .ghost unCsC [.tmp 0]), (1, .ghost rwKC [.tmp 0]), (1, .ghost ndRC []), (2, .inv (flI 6)), (5, .ghost opFC [.tmp 5]), (500005, .ghost rdFC [.tmp 5]), (6, .ghost opFC [.tmp 5]), (500006, .ghost rdFC [.tmp 5]), (9, .ghost opFC [.tmp 5]), (500009, .ghost clFC [.tmp 5]), (999999, .ghost foKC [.tmp 0])])] }
-- BEGIN VC fl
def flX0 : SX := .us .ints 242 (.at .rows 6) (.int 0) (.int 0) (.int 0)
def flX1 : SX := .us .ints 297 (.at .g 2) (.int 0) (.int 0) (.int 0)
def flX2 : SX := .f2 113 flX1 (.int 0)
def flX3 : SX := .us .g 267 (.at .g 2) (.us .int 258 (.at .g 2) (.int 0) (.int 0) (.int 0)) (.us .int 259 (.at .g 2) (.int 0) (.int 0) (.int 0)) (.us .int 260 (.at .g 2) (.int 0) (.int 0) (.int 0))
def flX4 : SX := .f1 30 flX1
def flX5 : SX := .f2 113 flX1 (.at .int 12)
def flX6 : SX := .f2 110 (.at .ints 10) (.at .int 12)
def flX7 : SX := .f3 140 (.int (- (0 + 1))) (.at .amap 7) flX6
def flX8 : SX := .us .int 250 (.at .rows 6) flX7 (.int 0) (.int 0)
def flX9 : SX := .us .g 294 (.at .g 2) (.at .g 3) flX5 (.int 0)
def flX10 : SX := .us .bytes 253 flX9 flX8 (.int 0) (.int 0)
def flX11 : SX := .f1 31 flX10
def flX12 : SX := .f2 47 flX11 (.f3 112 (.at .rows 6) flX8 (.int 2))
def flX13 : SX := .f2 50 (.f2 47 (.int 0) (.f3 112 (.at .rows 6) flX8 (.int 1))) (.f2 45 flX11 (.int 0))
def flX14 : SX := .f1 2 (.us .bool 254 flX9 flX8 (.int 0) (.int 0))
def flX15 : SX := .f2 40 (.at .int 12) (.int 1)
def flX16 : SX := .f1 23 flX15
def flX17 : SX := .f2 41 flX4 flX15
def flX18 : SX := .f2 47 (.int 0) flX17
def flX19 : SX := .f2 46 flX17 (.f2 41 flX4 (.at .int 12))
def flX20 : SX := .f2 47 (.int 0) flX15
def flX21 : SX := .f2 47 flX15 flX4
def flX22 : SX := .f2 113 flX1 flX15
def flX23 : SX := .f2 45 (.us .int 296 (.at .g 2) (.at .g 3) flX22 (.int 0)) (.int 0)
def flX24 : SX := .us .g 295 (.at .g 2) (.at .g 3) flX22 (.int 0)
def flX25 : SX := .us .g 295 (.at .g 2) (.at .g 3) flX5 (.int 0)
def flX26 : SX := .us .g 294 (.at .g 2) (.at .g 3) flX22 (.int 0)
def flX27 : SX := .f2 114 flX10 flX11
def flX28 : SX := .us .int 222 flX25 flX6 flX27 (.int 0)
def flX29 : SX := .f2 45 flX28 (.int 0)
def flX30 : SX := .f2 155 flX0 flX0
def flX31 : SX := .us .bool 251 (.at .amap 7) (.at .rows 6) flX9 (.int 0)
def flX32 : SX := .us .g 267 flX9 (.us .int 258 flX3 (.int 0) (.int 0) (.int 0)) (.us .int 259 flX3 (.int 0) (.int 0) (.int 0)) (.us .int 260 flX3 (.int 0) (.int 0) (.int 0))
def flX33 : SX := .us .bool 268 flX32 (.int 0) (.int 0) (.int 0)
def flX34 : SX := .f2 45 (.us .int 257 flX9 (.int 0) (.int 0) (.int 0)) (.us .int 257 flX3 (.int 0) (.int 0) (.int 0))
def flX35 : SX := .us .g 295 (.at .g 2) (.at .g 3) flX1 (.int 0)
def flX36 : SX := .us .g 221 flX25 flX6 flX27 (.int 0)
def flX37 : SX := .f2 155 (.us .g 294 (.at .g 2) (.at .g 3) flX1 (.int 0)) flX32
def flX38 : SX := .us .int 296 (.at .g 2) (.at .g 3) flX1 (.int 0)
def flVc : VC := (.imp (.f2 47 (.us .int 206 (.at .g 3) (.int 0) (.int 0) (.int 0)) (.int 2305843009213693952)) (.imp (.f2 47 (.us .int 211 (.at .g 3) (.int 0) (.int 
    0) (.int 0)) (.int 549755813888)) (.imp (.f2 47 (.f1 30 (.us .ints 209 (.at .g 3) (.int 0) (.int 0) (.int 0))) (.int 140737488355328)) (.imp (.us 
    .bool 305 (.at .g 2) (.int 0) (.int 0) (.int 0)) (.all 4 .int (.all 5 .int (.all 6 .rows (.all 7 .amap (.imp (.us .bool 251 (.at .amap 7) (.at .rows 
    6) (.at .g 2) (.int 0)) (.imp (.us .bool 268 (.at .g 2) (.int 0) (.int 0) (.int 0)) (.imp (.f2 45 (.f1 32 (.at .rows 6)) (.us .int 256 (.at .g 2) 
    (.int 0) (.int 0) (.int 0))) (.imp (.f2 47 (.int 0) (.at .int 4)) (.imp (.us .bool 246 (.at .int 5) flX0 (.int 0) (.int 0)) (.imp (.us .bool 249 (.at 
    .int 5) flX0 (.int 0) (.int 0)) (.all 8 .int (.imp (.f2 47 (.int 0) (.at .int 8)) (.need (.us .bool 306 (.at .amap 7) (.int 0) (.int 0) (.int 0)) 
    (.need (.f2 47 (.f1 33 (.at .amap 7)) (.int 65536)) (.all 9 .int (.all 10 .ints (.all 11 .int (.imp (.f2 155 (.at .ints 10) (.us .ints 298 (.at .amap 
    7) (.int 0) (.int 0) (.int 0))) (.imp (.f2 47 (.f1 30 (.at .ints 10)) (.at .int 11)) (.need (.f2 45 (.us .int 296 (.at .g 2) (.at .g 3) flX2 (.int 0)) 
    (.int 0)) (.need (.f2 155 (.us .g 295 (.at .g 2) (.at .g 3) flX2 (.int 0)) (.us .g 234 (.at .g 3) (.int 0) (.int 0) (.int 0))) (.need (.f2 155 (.us .g 
    294 (.at .g 2) (.at .g 3) flX2 (.int 0)) flX3) (.all 12 .int (.imp (.f2 47 (.int 0) (.at .int 12)) (.imp (.f2 47 (.at .int 12) flX4) (.imp (.f2 45 
    (.us .int 296 (.at .g 2) (.at .g 3) flX5 (.int 0)) (.int 0)) (.and (.imp (.f2 46 (.at .int 12) (.f1 30 (.at .ints 10))) (.need (.f2 46 flX8 (.f1 32 
    (.at .rows 6))) (.imp flX12 (.imp flX13 (.need (.f2 47 (.int 0) flX8) (.need (.f2 45 flX7 (.f3 112 (.at .rows 6) flX8 (.int 0))) (.need (.f2 45 (.f1 
    32 (.at .rows 6)) (.us .int 256 flX9 (.int 0) (.int 0) (.int 0))) (.and (.imp flX14 (.need flX16 (.need flX18 (.need flX19 (.need flX20 (.need flX21 
    (.need flX23 (.need (.f2 155 flX24 flX25) (.need (.f2 155 flX26 flX9) .tt))))))))) (.imp (.f1 2 flX14) (.imp flX12 (.imp flX13 (.need (.f2 47 flX11 
    flX11) (.need (.f2 47 flX11 (.int 1099511627776)) (.need (.f2 47 (.us .int 206 flX25 (.int 0) (.int 0) (.int 0)) (.int 4611686018427387904)) (.need 
    (.f2 47 (.us .int 211 flX25 (.int 0) (.int 0) (.int 0)) (.int 1099511627776)) (.need (.f2 47 (.f1 30 (.us .ints 209 flX25 (.int 0) (.int 0) (.int 0))) 
    (.int 140737488355328)) (.and (.imp (.f1 2 flX29) (.need flX30 (.need flX31 (.need flX33 (.need flX34 (.need (.f2 155 flX35 flX36) (.need flX37 (.need 
    (.f2 45 flX38 flX28) .tt)))))))) (.imp flX29 (.imp flX12 (.imp flX13 (.need flX16 (.need flX18 (.need flX19 (.need flX20 (.need flX21 (.need flX23 
    (.need (.f2 155 flX24 flX36) (.need (.f2 155 flX26 (.us .g 293 flX9 flX8 (.int 0) (.int 0))) .tt)))))))))))))))))))))))))))) (.imp (.f2 47 (.f1 30 
    (.at .ints 10)) (.at .int 12)) (.need flX30 (.need flX31 (.need flX33 (.need flX34 (.need (.f2 155 flX35 flX25) (.need flX37 (.need (.f2 45 flX38 
    (.int 0)) .tt)))))))))))))))))))))))))))))))))))))))
theorem fl_vc : vcOf Try.prog flCx 12 12 flCtr = flVc := by kernel_rfl
-- END VC fl
-- PROOFS
theorem flS_cons (n : Int) (l : List Int) (c : Cs) (d : Dv) : flS (n :: l) c d = bif (c.at' (c.idx n : Nat)).dirty then (if d.wrE n (c.at' (c.idx n : Nat)).b = 0 then flS l (c.clean (c.idx n : Nat)) (d.wrD n (c.at' (c.idx n : Nat)).b) else (c, d.wrD n (c.at' (c.idx n : Nat)).b, d.wrE n (c.at' (c.idx n : Nat)).b)) else flS l c d := rfl
theorem flS_app : ∀ (l r : List Int) (c : Cs) (d : Dv), flS (l ++ r) c d = if (flS l c d).2.2 = 0 then flS r (flS l c d).1 (flS l c d).2.1 else flS l c d
  | [], r, c, d => (if_pos rfl).symm
  | n :: l, r, c, d => by
    rw [List.cons_append, flS_cons n (l ++ r), flS_cons n l]
    cases hd : (c.at' (c.idx n : Nat)).dirty
    · simp only [cond_false]; exact flS_app l r c d
    · simp only [cond_true]
      by_cases hw : d.wrE n (c.at' (c.idx n : Nat)).b = 0
      · rw [if_pos hw, if_pos hw]; exact flS_app l r _ _
      · rw [if_neg hw, if_neg hw]
        simp only
        rw [if_neg hw]
theorem dirty_in {c : Cs} {n : Int} (h : (c.at' (c.idx n : Nat)).dirty = true) : c.idx n < c.fr.length := by
  rcases Nat.lt_or_ge (c.idx n) c.fr.length with h1 | h1
  · exact h1
  · have : c.at' (c.idx n : Nat) = fr0 := by
      show c.fr.getD _ fr0 = _
      rw [Int.toNat_natCast, List.getD_eq_getElem?_getD, List.getElem?_eq_none h1]; rfl
    rw [this] at h; cases h
theorem put_map {c : Cs} {i : Nat} (hi : i < c.fr.length) {f : Fr} (hn : f.n = (c.at' (i : Nat)).n) : (c.put (i : Nat) f).fr.map (·.n) = c.fr.map (·.n) := by
  have hF := split_at (d := fr0) hi
  show (c.fr.take i ++ f :: c.fr.drop (i + 1)).map (·.n) = _
  conv => rhs; rw [hF]
  have hn : f.n = (c.fr.getD i fr0).n := hn
  simp [hn]
/-- What a Flush keeps of the cache. -/
structure KeepC (c e : Cs) : Prop where
  n : e.fr.map (·.n) = c.fr.map (·.n)
  frames : e.frames = c.frames
  hits : e.hits = c.hits
  misses : e.misses = c.misses
  evic : e.evic = c.evic
  good : GoodC c → GoodC e
theorem KeepC.refl (c : Cs) : KeepC c c := ⟨rfl, rfl, rfl, rfl, rfl, id⟩
theorem KeepC.trans {a b c : Cs} (h : KeepC a b) (k : KeepC b c) : KeepC a c := ⟨k.n.trans h.n, k.frames.trans h.frames, k.hits.trans h.hits, k.misses.trans h.misses, k.evic.trans h.evic, fun g => k.good (h.good g)⟩
theorem KeepC.clean {c : Cs} {i : Nat} (hi : i < c.fr.length) : KeepC c (c.clean (i : Nat)) :=
  ⟨put_map hi rfl, rfl, rfl, rfl, rfl, fun g => g.put hi rfl (show 0 ≤ (c.at' (i : Nat)).pins from g.pins _ (at_mem hi)) (show (c.at' (i : Nat)).b.length ≤ 65536 from g.b _ (at_mem hi))⟩
theorem flS_keep : ∀ (l : List Int) (c : Cs) (d : Dv), KeepC c (flS l c d).1
  | [], c, d => KeepC.refl c
  | n :: l, c, d => by
    unfold flS
    cases hd : (c.at' (c.idx n : Nat)).dirty
    · exact flS_keep l c d
    · simp only [cond_true]
      by_cases hw : d.wrE n (c.at' (c.idx n : Nat)).b = 0
      · rw [if_pos hw]; exact (KeepC.clean (dirty_in hd)).trans (flS_keep l _ _)
      · rw [if_neg hw]; exact KeepC.refl c
/-- .. and of the device. -/
structure MoreD (k : Nat) (d e : Dv) : Prop where
  wr : e.wr ≤ d.wr + k
  w : e.w.length ≤ d.w.length + k
  keep : e.keep = d.keep
theorem wrD_more (d : Dv) (n : Int) (x : List UInt8) : MoreD 1 d (d.wrD n x) := by
  unfold Dv.wrD
  split
  · exact ⟨by omega, by omega, rfl⟩
  · split
    · exact ⟨by omega, by omega, rfl⟩
    · unfold Dv.writ
      simp only
      split
      · exact ⟨Int.le_refl _, Nat.zero_le _, rfl⟩
      · refine ⟨Int.le_refl _, ?_, rfl⟩
        show (d.w ++ [(n, x)]).length ≤ _
        rw [List.length_append]; exact Nat.le_refl _
theorem flS_more : ∀ (l : List Int) (c : Cs) (d : Dv), MoreD l.length d (flS l c d).2.1
  | [], c, d => ⟨by show d.wr ≤ d.wr + 0; omega, Nat.le_refl _, rfl⟩
  | n :: l, c, d => by
    unfold flS
    cases hd : (c.at' (c.idx n : Nat)).dirty
    · have h := flS_more l c d
      exact ⟨by have := h.wr; show _ ≤ d.wr + ((l.length + 1 : Nat) : Int); simp only [cond_false]; omega, by have := h.w; show _ ≤ d.w.length + (l.length + 1); simp only [cond_false]; omega, h.keep⟩
    · simp only [cond_true]
      have h1 := wrD_more d n (c.at' (c.idx n : Nat)).b
      by_cases hw : d.wrE n (c.at' (c.idx n : Nat)).b = 0
      · rw [if_pos hw]
        have h := flS_more l (c.clean (c.idx n : Nat)) (d.wrD n (c.at' (c.idx n : Nat)).b)
        have a1 := h.wr; have a2 := h1.wr; have a3 := h.w; have a4 := h1.w
        exact ⟨by show _ ≤ d.wr + ((l.length + 1 : Nat) : Int); omega, by show _ ≤ d.w.length + (l.length + 1); omega, h.keep.trans h1.keep⟩
      · rw [if_neg hw]
        have a2 := h1.wr; have a4 := h1.w
        exact ⟨by show _ ≤ d.wr + ((l.length + 1 : Nat) : Int); simp only; omega, by show _ ≤ d.w.length + (l.length + 1); simp only; omega, h1.keep⟩
theorem prs_n : ∀ {a b : List Fr} (R : List (List Int)), a.map (·.n) = b.map (·.n) → prs a R = prs b R
  | [], [], R, _ => rfl
  | f :: a, g :: b, [], _ => rfl
  | f :: a, g :: b, r :: R, h => by
    rw [List.map_cons, List.map_cons] at h
    injection h with h1 h2
    show (f.n, g0 r) :: prs a R = (g.n, g0 r) :: prs b R
    rw [h1, prs_n R h2]
theorem len_n {a b : List Fr} (h : a.map (·.n) = b.map (·.n)) : a.length = b.length := by have := congrArg List.length h; rwa [List.length_map, List.length_map] at this
theorem heldOk.ofn {m : List (Int × Int)} {R : List (List Int)} {a b : List Fr} (h : heldOk m R a) (e : b.map (·.n) = a.map (·.n)) : heldOk m R b :=
  ⟨h.1.trans (len_n e).symm, by rw [e]; exact h.2.1, by rw [prs_n R e]; exact h.2.2⟩
theorem heldOk.perm {m : List (Int × Int)} {R : List (List Int)} {fr : List Fr} (h : heldOk m R fr) : (m.map (·.1)).Perm (fr.map (·.n)) := by
  have := h.2.2.map (·.1); rwa [prs_map h.1] at this
theorem sortK_perm {a b : List Int} (h : a.Perm b) : sortK a = sortK b := Go.mergeSort_of_perm_i h
theorem sortK_mem {a : List Int} {x : Int} : x ∈ sortK a ↔ x ∈ a := (List.mergeSort_perm a _).mem_iff
theorem sortK_len (a : List Int) : (sortK a).length = a.length := (List.mergeSort_perm a _).length_eq
theorem hit_mem {c : Cs} {n : Int} (h : n ∈ c.fr.map (·.n)) : c.idx n < c.fr.length := by
  rcases Nat.lt_or_ge (c.idx n) c.fr.length with h1 | h1
  · exact h1
  · obtain ⟨f, hf, e⟩ := List.mem_map.1 h
    have := no_hit (c := c) (n := n) (fun q => absurd (show c.idx n < c.fr.length from q) (by omega)) f hf
    rw [e] at this; simp at this
theorem fl_specs {S : Sig GG} (hS : CsSig S) (hk : SortedAt Try.prog 26 37) : SpecsOk S Try.prog flushS := ⟨one_spec (by decide) (sk_of S hS hk), one_spec (by decide) (write_ok S hS.dv), trivial⟩
set_option maxRecDepth 20000 in
theorem fl_of (S : Sig GG) (hS : CsSig S) (hk : SortedAt Try.prog 26 37) : CtrOk S Try.prog 12 flCtr := by
  refine vcOf_sound S (C := flCx) (fuel := 12) (cx_of (fl_specs hS hk) ⟨⟨⟨by decide, nrP_gh S hS⟩, ⟨by decide, unCs_gh S hS⟩, ⟨by decide, rwK_gh S hS⟩, ⟨by decide, ndR_gh S hS.rg⟩, trivial, ⟨by decide, opF_gh S hS⟩, ⟨by decide, rdF_gh S hS⟩, ⟨by decide, opF_gh S hS⟩, ⟨by decide, rdF_gh S hS⟩, ⟨by decide, opF_gh S hS⟩, ⟨by decide, clF_gh S hS⟩, ⟨by decide, foK_gh S hS⟩, trivial⟩, trivial⟩ trivial) fun ρ => ?_
  rw [fl_vc]
  simp only [flVc, flX0, flX1, flX2, flX3, flX4, flX5, flX6, flX7, flX8, flX9, flX10, flX11, flX12, flX13, flX14, flX15, flX16, flX17, flX18, flX19, flX20, flX21, flX22, flX23, flX24, flX25, flX26, flX27, flX28, flX29, flX30, flX31, flX32, flX33, flX34, flX35, flX36, flX37, flX38, ap1_33, hS.u293, hS.u294, hS.u295, hS.u296, hS.u297, hS.u298, hS.u305, hS.u306, hS.u280, hS.u281, hS.u282, hS.u283, hS.u284, hS.u285, co_g, dvOf_g, hS.dv.u200, hS.dv.u201, hS.dv.u202, hS.dv.u203, hS.dv.u204, hS.dv.u205, hS.dv.u206, hS.dv.u207, hS.dv.u208, hS.dv.u209, hS.dv.u210, hS.dv.u211, hS.dv.u212, hS.dv.u213, hS.dv.u214, hS.dv.u215, hS.dv.u216, hS.dv.u217, hS.dv.u220, hS.dv.u221, hS.dv.u222, hS.dv.u223, hS.dv.u224, hS.dv.u225, hS.dv.u226, hS.dv.u227, hS.dv.u228, hS.dv.u229, hS.dv.u230, hS.dv.u231, hS.dv.u232, hS.dv.u233, hS.dv.u234, co_g, csOf_g, hS.rg.u240, hS.rg.u241, hS.rg.u242, hS.rg.u243, hS.rg.u244, hS.rg.u245, hS.rg.u246, hS.rg.u247, hS.rg.u248, hS.rg.u249, hS.u250, hS.u251, hS.u252, hS.u253, hS.u254, hS.u255, hS.u256, hS.u257, hS.u258, hS.u259, hS.u260, hS.u261, hS.u262, hS.u263, hS.u264, hS.u265, hS.u266, hS.u267, hS.u268, hS.u269, hS.u270, hS.u271, hS.u272, hS.u273, hS.u274, VC.den, SX.den, co_int, co_bool, co_bytes, co_ints, co_rows, co_map, Env.upd, p155, p153, p23, p45, p46, p47, p50, b46, b47, t46, t47, p2_45, ap1_2, ap1_30, ap1_31, ap1_32, ap1_152, ap1_153, ap1_154, ap2_40, ap2_41, ap2_42, ap2_43, ap2_45, p48_b, ap2_51i, ap2_52i, ap2_110, ap2_111, ap2_113, ap2_114, ap2_115, ap2_117, ap2_120, ap2_126, ap2_141, ap3_112, ap3_140, beq_iff_eq, Bool.not_eq_true', beq_eq_false_iff_ne, ne_eq, Bool.not_not, U.toProp_bool, U.toBool_bool, i64lo, i64hi, U.toInt_int, U.toInts_ints, U.toBytes_bytes, U.toRows_rows, U.toMap_amap, Int.toNat_zero, Nat.reduceEqDiff, reduceIte, propB_iff, leB_iff, ltB_iff, U.int.injEq, U.bool.injEq, U.bytes.injEq, U.ints.injEq, U.rows.injEq]
  generalize csOf (U.co S .g (ρ 2)) = c
  generalize dvOf (U.co S .g (ρ 3)) = d
  intro q1 q2 q3 q4 hm H R m hh hg hlen hpos hnd hp _ _
  have hlen' := hh.1
  have hml := hh.len
  have hfr := hg.frames
  have hgl := hg.len
  have hperm := hh.perm
  have hK : sortK (m.map (·.1)) = c.keys := sortK_perm hperm
  have hKl : c.keys.length = c.fr.length := by rw [← List.length_map (f := fun f : Fr => f.n)]; exact sortK_len _
  refine ⟨fun p hpm => ?_, by omega, fun b X cp x1 x2 => ?_⟩
  · obtain ⟨f, hf, e⟩ := List.mem_map.1 (hperm.mem_iff.1 (List.mem_map.2 ⟨p, hpm, rfl⟩))
    have := q4 f hf
    rw [← e]; exact this
  rw [hK] at x1
  subst x1
  refine ⟨rfl, by first | trivial | rfl, by first | trivial | rfl, fun i i0 i1 hE => ?_⟩
  have hkeep := flS_keep (c.keys.take i.toNat) c d
  have hmore := flS_more (c.keys.take i.toNat) c d
  have htl : (c.keys.take i.toNat).length ≤ 4096 := by rw [List.length_take]; omega
  have hall := flS_app (c.keys.take i.toNat) (c.keys.drop i.toNat) c d
  rw [List.take_append_drop, if_pos hE] at hall
  have hnx : i.toNat < c.keys.length → flS (c.keys.take (i + 1).toNat) c d = flS [c.keys.getD i.toNat 0] (flS (c.keys.take i.toNat) c d).1 (flS (c.keys.take i.toNat) c d).2.1 := by
    intro h
    have e : c.keys.take (i + 1).toNat = c.keys.take i.toNat ++ [c.keys.getD i.toNat 0] := by
      rw [show (i + 1).toNat = i.toNat + 1 by omega, List.take_add_one, List.getElem?_eq_getElem h, List.getD_eq_getElem?_getD, List.getElem?_eq_getElem h]; rfl
    rw [e, flS_app, if_pos hE]
  have hw1 := hmore.wr
  have hw2 := hmore.w
  have hw3 := hmore.keep
  generalize flS (c.keys.take i.toNat) c d = st at *
  obtain ⟨ci, di, ei⟩ := st
  simp only at hkeep hmore hall hnx hE hw1 hw2 hw3 ⊢
  have hh' : heldOk m R ci.fr := hh.ofn hkeep.n
  have hgi := hkeep.good hg
  have heq : ({ fr := ci.fr, frames := ci.frames, hits := c.hits, misses := c.misses, evic := c.evic } : Cs) = ci := by rw [← hkeep.hits, ← hkeep.misses, ← hkeep.evic]
  have hli := len_n hkeep.n
  simp only [heq]
  refine ⟨fun hlt => ?_, fun hge => ?_⟩
  · have hlt' : i.toNat < c.keys.length := by omega
    have hnx := hnx hlt'
    have hkm : c.keys.getD i.toNat 0 ∈ c.fr.map (·.n) := by
      rw [← sortK_mem, List.getD_eq_getElem?_getD, List.getElem?_eq_getElem hlt']
      exact List.getElem_mem _
    have hdrop : c.keys.drop i.toNat = c.keys.getD i.toNat 0 :: c.keys.drop (i.toNat + 1) := by
      rw [List.drop_eq_getElem_cons hlt', List.getD_eq_getElem?_getD, List.getElem?_eq_getElem hlt']; rfl
    rw [hdrop, flS_cons] at hall
    rw [flS_cons] at hnx
    generalize c.keys.getD i.toNat 0 = k at *
    have hj : ci.idx k < ci.fr.length := hit_mem (by rw [hkeep.n]; exact hkm)
    have hl : mget (-(0 + 1)) m k = g0 (R.getD (ci.idx k) []) := by have := hh'.get (d := -(0 + 1)) hj; rwa [Cs.idx_n hj] at this
    have hr : rowI (mget (-(0 + 1)) m k) R = ci.idx k := by
      rw [hl, rowI_idx, ← map_getD R _ (by omega)]; exact idx_nod (List.nodup_cons.1 hnd).2 (by rw [List.length_map]; omega)
    have hat := at_mem hj
    have hb := hgi.b _ hat
    simp only [hr, Int.toNat_natCast, List.take_length]
    refine ⟨by omega, fun _ _ => ⟨by omega, hl, by omega, fun hdt => ?_, fun hdt _ _ => ⟨Int.le_refl _, by omega, by omega, by omega, by rw [hw3]; omega, fun hE2 => ?_, fun hE2 _ _ => ?_⟩⟩⟩
    · rw [hdt] at hnx
      simp only [cond_false] at hnx
      rw [hnx]
      exact ⟨by omega, by omega, by omega, by omega, by omega, rfl, by first | trivial | rfl, by first | trivial | rfl, trivial⟩
    · rw [hdt, cond_true, if_neg hE2] at hall
      rw [hall]
      exact ⟨trivial, hh', hgi, hkeep.frames, by first | trivial | rfl, by first | trivial | rfl, rfl, trivial⟩
    · rw [hdt, cond_true, if_pos hE2] at hnx
      rw [hnx]
      exact ⟨by omega, by omega, by omega, by omega, by omega, rfl, by first | trivial | rfl, by first | trivial | rfl, trivial⟩
  · have hd : c.keys.drop i.toNat = [] := List.drop_eq_nil_of_le (by omega)
    rw [hd] at hall
    rw [hall]
    exact ⟨trivial, hh', hgi, hkeep.frames, by first | trivial | rfl, by first | trivial | rfl, rfl, trivial⟩
end
end Go.Proofs.Ytlcfjjjdhdfbdaa

/- slices.Sorted, maps.Keys and slices.Sort as the library's shelf has them: the tables of numbers, in plain words (written by the shelf's lay-plain, made a template by wip/dev/sklay.py). -/
namespace Go.Proofs
open Go.Shelf
def Try.keysK_ren : Go.Shelf.Ren := ⟨fun | 7 => 27 | 10 => 37 | n => n, fun | 23 => 52 | 26 => 3 | 3 => 53 | 28 => 70 | 0 => 0 | 27 => 69 | 33 => 46 | 4 => 4 | n => n, fun | n => n⟩
theorem Try.keysK : Go.Proofs.SlLaysZI.n7 Try.prog Try.keysK_ren := {
  mixed := by kernel_rfl
  f7 := ⟨Try.f27.name, by decide, Try.func27.trans (congrArg some (by kernel_rfl))⟩
  f10 := ⟨Try.f37.name, by decide, Try.func37.trans (congrArg some (by kernel_rfl))⟩
  t0 := Try.underlying0
  a0 := Try.isAgg0
  z0 := Try.sizeOf0
  v0 := Try.zeroValue0
  t4 := Try.underlying4
  a4 := Try.isAgg4
  z4 := Try.sizeOf4
  v4 := Try.zeroValue4
  t23 := Try.underlying52
  a23 := Try.isAgg52
  z23 := Try.sizeOf52
  v23 := Try.zeroValue52
  t26 := Try.underlying3
  a26 := Try.isAgg3
  z26 := Try.sizeOf3
  v26 := Try.zeroValue3
  t27 := Try.underlying69
  a27 := Try.isAgg69
  z27 := Try.sizeOf69
  v27 := Try.zeroValue69
  t28 := Try.underlying70
  a28 := Try.isAgg70
  z28 := Try.sizeOf70
  v28 := Try.zeroValue70
  t33 := Try.underlying46
  a33 := Try.isAgg46
  z33 := Try.sizeOf46
  v33 := Try.zeroValue46 }
def Try.sortedK_ren : Go.Shelf.Ren := ⟨fun | 6 => 26 | 8 => 35 | 9 => 36 | 11 => 40 | 13 => 42 | 12 => 41 | 23 => 54 | 24 => 55 | 14 => 45 | 15 => 46 | 16 => 47 | 17 => 48 | 18 => 49 | 19 => 50 | 20 => 51 | 21 => 52 | 22 => 53 | 25 => 57 | 26 => 58 | 27 => 59 | 28 => 60 | 29 => 61 | 30 => 62 | 31 => 63 | n => n, fun | 26 => 3 | 28 => 70 | 24 => 28 | 0 => 0 | 3 => 3 | 37 => 80 | 48 => 91 | 50 => 93 | 4 => 4 | 40 => 84 | 39 => 83 | 45 => 74 | 5 => 5 | 9 => 9 | 51 => 95 | 55 => 99 | 57 => 101 | 58 => 102 | 33 => 46 | n => n, fun | n => n⟩
theorem Try.sortedK : Go.Proofs.SlLaysZI.n6 Try.prog Try.sortedK_ren := {
  mixed := by kernel_rfl
  f6 := ⟨Try.f26.name, by decide, Try.func26.trans (congrArg some (by kernel_rfl))⟩
  f8 := ⟨Try.f35.name, by decide, Try.func35.trans (congrArg some (by kernel_rfl))⟩
  f11 := ⟨Try.f40.name, by decide, Try.func40.trans (congrArg some (by kernel_rfl))⟩
  t0 := Try.underlying0
  a0 := Try.isAgg0
  z0 := Try.sizeOf0
  v0 := Try.zeroValue0
  t24 := Try.underlying28
  a24 := Try.isAgg28
  z24 := Try.sizeOf28
  v24 := Try.zeroValue28
  t26 := Try.underlying3
  a26 := Try.isAgg3
  z26 := Try.sizeOf3
  v26 := Try.zeroValue3
  t28 := Try.underlying70
  a28 := Try.isAgg70
  z28 := Try.sizeOf70
  v28 := Try.zeroValue70
  i26 := by kernel_rfl }
def Try.sortK_ren : Go.Shelf.Ren := ⟨fun | 5 => 36 | 8 => 42 | 7 => 41 | 19 => 54 | 20 => 55 | 10 => 45 | 11 => 46 | 12 => 47 | 13 => 48 | 14 => 49 | 15 => 50 | 16 => 51 | 17 => 52 | 18 => 53 | 30 => 57 | 31 => 58 | 32 => 59 | 33 => 60 | 34 => 61 | 35 => 62 | 40 => 63 | n => n, fun | 23 => 28 | 25 => 3 | 3 => 3 | 32 => 80 | 22 => 28 | 0 => 0 | 44 => 91 | 46 => 93 | 4 => 4 | 36 => 84 | 35 => 83 | 41 => 74 | 5 => 5 | 9 => 9 | 53 => 95 | 57 => 99 | 63 => 101 | 64 => 102 | n => n, fun | n => n⟩
theorem Try.sortK : Go.Proofs.SlLaysM.n5 Try.prog Try.sortK_ren := {
  mixed := by kernel_rfl
  f5 := ⟨Try.f36.name, by decide, Try.func36.trans (congrArg some (by kernel_rfl))⟩
  f7 := ⟨Try.f41.name, by decide, Try.func41.trans (congrArg some (by kernel_rfl))⟩
  f8 := Try.func42.trans (congrArg some (by kernel_rfl))
  f10 := ⟨Try.f45.name, by decide, Try.func45.trans (congrArg some (by kernel_rfl))⟩
  f11 := ⟨Try.f46.name, by decide, Try.func46.trans (congrArg some (by kernel_rfl))⟩
  f12 := ⟨Try.f47.name, by decide, Try.func47.trans (congrArg some (by kernel_rfl))⟩
  f13 := ⟨Try.f48.name, by decide, Try.func48.trans (congrArg some (by kernel_rfl))⟩
  f14 := ⟨Try.f49.name, by decide, Try.func49.trans (congrArg some (by kernel_rfl))⟩
  f15 := ⟨Try.f50.name, by decide, Try.func50.trans (congrArg some (by kernel_rfl))⟩
  f16 := ⟨Try.f51.name, by decide, Try.func51.trans (congrArg some (by kernel_rfl))⟩
  f17 := ⟨Try.f52.name, by decide, Try.func52.trans (congrArg some (by kernel_rfl))⟩
  f18 := ⟨Try.f53.name, by decide, Try.func53.trans (congrArg some (by kernel_rfl))⟩
  f19 := Try.func54.trans (congrArg some (by kernel_rfl))
  f20 := Try.func55.trans (congrArg some (by kernel_rfl))
  f30 := ⟨Try.f57.name, by decide, Try.func57.trans (congrArg some (by kernel_rfl))⟩
  f31 := Try.func58.trans (congrArg some (by kernel_rfl))
  f32 := Try.func59.trans (congrArg some (by kernel_rfl))
  f33 := ⟨Try.f60.name, by decide, Try.func60.trans (congrArg some (by kernel_rfl))⟩
  f34 := ⟨Try.f61.name, by decide, Try.func61.trans (congrArg some (by kernel_rfl))⟩
  f35 := ⟨Try.f62.name, by decide, Try.func62.trans (congrArg some (by kernel_rfl))⟩
  f40 := ⟨Try.f63.name, by decide, Try.func63.trans (congrArg some (by kernel_rfl))⟩
  t0 := Try.underlying0
  a0 := Try.isAgg0
  z0 := Try.sizeOf0
  v0 := Try.zeroValue0
  t3 := Try.underlying3
  a3 := Try.isAgg3
  z3 := Try.sizeOf3
  v3 := Try.zeroValue3
  t4 := Try.underlying4
  a4 := Try.isAgg4
  z4 := Try.sizeOf4
  v4 := Try.zeroValue4
  t5 := Try.underlying5
  a5 := Try.isAgg5
  z5 := Try.sizeOf5
  v5 := Try.zeroValue5
  t9 := Try.underlying9
  a9 := Try.isAgg9
  z9 := Try.sizeOf9
  v9 := Try.zeroValue9
  t22 := Try.underlying28
  a22 := Try.isAgg28
  z22 := Try.sizeOf28
  v22 := Try.zeroValue28
  t23 := Try.underlying28
  a23 := Try.isAgg28
  z23 := Try.sizeOf28
  v23 := Try.zeroValue28
  t25 := Try.underlying3
  a25 := Try.isAgg3
  z25 := Try.sizeOf3
  v25 := Try.zeroValue3
  t32 := Try.underlying80
  a32 := Try.isAgg80
  z32 := Try.sizeOf80
  v32 := Try.zeroValue80
  t35 := Try.underlying83
  a35 := Try.isAgg83
  z35 := Try.sizeOf83
  v35 := Try.zeroValue83
  t36 := Try.underlying84
  a36 := Try.isAgg84
  z36 := Try.sizeOf84
  v36 := Try.zeroValue84
  t41 := Try.underlying74
  a41 := Try.isAgg74
  z41 := Try.sizeOf74
  v41 := Try.zeroValue74
  t44 := Try.underlying91
  a44 := Try.isAgg91
  z44 := Try.sizeOf91
  v44 := Try.zeroValue91
  t46 := Try.underlying93
  a46 := Try.isAgg93
  z46 := Try.sizeOf93
  v46 := Try.zeroValue93
  t53 := Try.underlying95
  a53 := Try.isAgg95
  z53 := Try.sizeOf95
  v53 := Try.zeroValue95
  t57 := Try.underlying99
  a57 := Try.isAgg99
  z57 := Try.sizeOf99
  v57 := Try.zeroValue99
  t63 := Try.underlying101
  a63 := Try.isAgg101
  z63 := Try.sizeOf101
  v63 := Try.zeroValue101
  t64 := Try.underlying102
  a64 := Try.isAgg102
  z64 := Try.sizeOf102
  v64 := Try.zeroValue102 }
end Go.Proofs

/- slices.Sorted of maps.Keys gives a map's keys, sorted (out of the library's shelf). -/
set_option linter.unusedSimpArgs false
set_option linter.unusedVariables false
namespace Go.Proofs
open Go.RowKit Go.Maps Go.Sort Go.Shelf
theorem Try.sortsK (m : Nat) : AnyZI.SortsIn Try.prog Try.sortedK_ren Fence.wide m :=
  ⟨fun blk off cap ss W hH hblk hsz => callsIn_wide.2 (AnyM.slices_Sort_int Try.sortK blk off cap ss W hH hblk hsz),
   fun p cap W => callsIn_wide.2 (AnyM.slices_Sort_int_none Try.sortK p cap W)⟩
theorem Try.sortedKeys {H : Type} (b0 b nn : Nat) (D0 : DataW H) (R : Value → Option (DataW H × List MemPlace)) (w : World) (h0 : b0 < w.heap.size) (hc : w.cell? ⟨b0, 0, none⟩ = some (.map (some b)))
    (hown : w.ownsMap Try.prog 3 R b nn D0) (hmax : Maps.size D0 ≤ maxLen) (hbytes : Maps.size D0 * 8 ≤ 140737488355328) :
    Calls Try.prog 26 #[.func (.func 37) #[] #[.pointer (some ⟨b0, 0, none⟩)]] w fun e w' => ∃ (v : Value) (ss : List Int), e = .returned v ∧ ss.Perm (intKeys D0) ∧
      w'.ownsRow w.heap.size 3 1 v ss.length ((ss.mergeSort (fun x y => decide (x ≤ y))).map encZ) ∧ (v = .slice none 0 0 ↔ ss = []) ∧ Below w.heap.size w w' := by
  refine (callsIn_wide (n := 5)).1 ?_
  have hseq : SeqGives Fence.wide 2 Try.prog 37 #[.pointer (some ⟨b0, 0, none⟩)] encZ (fun ss => ss.Perm (intKeys D0)) (Maps.size D0) w :=
    AnyZI.keys_gives (ρ := Try.keysK_ren) { Try.keysK with } Fence.wide _ trivial rfl (by omega) b0 b nn D0 w h0 hc hown
  have cS := AnyZI.sorted_in Try.sortedK Fence.wide 5 trivial trivial trivial trivial rfl (by omega) (Try.sortsK _) (enters_of Try.func36 (by kernel_rfl) rfl) 37 #[.pointer (some ⟨b0, 0, none⟩)] trivial (enters_of Try.func37 (by kernel_rfl) rfl) _ _ hmax hbytes _ hseq
  exact cS
end Go.Proofs
namespace Go.Proofs.Ytlcfjjjdhdfbdaa
noncomputable section
open Go.Eng
open Go.RowKit (Below)
open Go.WideElems (Fit rd rg)
abbrev skR : Value → Option (DataW Unit × List MemPlace) := fun _ => some (.nil, [])
theorem map_sp {α β : Type} {P : α → Prop} {f : α → β} {l : List α} {n : List β} (h : l.map f = n) : ∀ {x}, x ∈ l → f x ∈ n := fun hx => h ▸ List.mem_map.2 ⟨_, hx, rfl⟩
theorem sorted_at : SortedAt Try.prog 26 37 := by
  refine ⟨3, fun b0 b1 es clock m w hm hk hl h0 hc hb => ?_⟩
  obtain ⟨m1, m2, m3, m4⟩ := hm
  have hu : Try.prog.underlying 3 = some (.int .i64) := Try.underlying3
  have hkey : es.toList.map (·.key) = m.map (fun p => Value.int .i64 p.1) := by
    have := congrArg (List.map Prod.fst) m1
    rw [List.map_map, List.map_map] at this; exact this
  have hsz : es.size = m.length := by have := congrArg List.length hkey; rw [List.length_map, List.length_map] at this; exact this
  have hnd : (es.toList.map (·.key)).Nodup := by
    rw [hkey]
    have e : m.map (fun p => Value.int .i64 p.1) = (m.map (·.1)).map (Value.int .i64) := by rw [List.map_map]; rfl
    rw [e]
    exact List.pairwise_map.2 (List.Pairwise.imp (fun {a b} h e => h (by injection e)) m2)
  have hrd : ∀ x ∈ es.toList, ∃ n : Int, x.key = .int .i64 n ∧ rd (H := Unit) Try.prog 3 skR x = some (.int .i64 n, .nil) := by
    intro x hx
    have hmem : x.key ∈ m.map (fun p => Value.int .i64 p.1) := by rw [← hkey]; exact List.mem_map.2 ⟨x, hx, rfl⟩
    obtain ⟨p, hp, e⟩ := List.mem_map.1 hmem
    have hp2 := hk p hp
    refine ⟨p.1, e.symm, ?_⟩
    unfold rd
    rw [← e, Go.Maps.keyOf_int_mk hu (by
      show (decide (IntKind.min .i64 ≤ p.1) && decide (p.1 ≤ IntKind.max .i64)) = true
      rw [Bool.and_eq_true, decide_eq_true_eq, decide_eq_true_eq]
      exact ⟨Int.le_trans (by decide) hp2.1, Int.le_trans (Int.le_of_lt hp2.2) (by decide)⟩)]
    rfl
  have hfit : Fit Try.prog 3 skR es clock := ⟨by unfold maxLen; omega, ⟨m4, m3, hnd⟩, fun x hx => by obtain ⟨n, _, h⟩ := hrd x hx; exact ⟨_, h⟩⟩
  have hown : w.ownsMap Try.prog 3 skR b1 es.size (.map ((es.toList.map (rg Try.prog 3 skR)).foldr DataW.insert [])) := ⟨es, clock, hb, hfit, Nat.le_refl _, rfl⟩
  have hsize : Go.Maps.size (.map ((es.toList.map (rg (H := Unit) Try.prog 3 skR)).foldr DataW.insert []) : DataW Unit) = m.length := by
    rw [Go.Maps.size_eq, (Go.WideShapes.sorted_perm _).length_eq, List.length_map, Array.length_toList, hsz]
  have hint : (intKeys (.map ((es.toList.map (rg (H := Unit) Try.prog 3 skR)).foldr DataW.insert []) : DataW Unit)).Perm (m.map (·.1)) := by
    show (((es.toList.map (rg (H := Unit) Try.prog 3 skR)).foldr DataW.insert []).map fun p => Go.intOf p.1).Perm _
    refine ((Go.WideShapes.sorted_perm _).map _).trans ?_
    rw [List.map_map]
    have e : es.toList.map ((fun p => Go.intOf p.1) ∘ rg (H := Unit) Try.prog 3 skR) = m.map (·.1) := by
      have e2 : es.toList.map (fun x => match x.key with | .int _ n => n | _ => 0) = m.map (·.1) := by
        have := congrArg (List.map (fun v => match v with | Value.int _ n => n | _ => (0 : Int))) hkey
        rw [List.map_map, List.map_map] at this
        exact this
      rw [← e2]
      refine List.map_congr_left fun x hx => ?_
      obtain ⟨n, h1, h2⟩ := hrd x hx
      have hrg : rg (H := Unit) Try.prog 3 skR x = (.int .i64 n, .nil) := by unfold rg; rw [h2]; exact Option.getD_some
      rw [Function.comp_apply, hrg, h1]; rfl
    rw [e]
  refine (Try.sortedKeys b0 b1 es.size _ skR w h0 hc hown (by rw [hsize]; unfold maxLen; omega) (by rw [hsize]; omega)).mono ?_
  rintro e w' ⟨v, ss, rfl, hp, hrow, _, hbel⟩
  have hpm := hp.trans hint
  have hlen : ss.length = m.length := by rw [hpm.length_eq, List.length_map]
  refine ⟨v, rfl, ?_, hbel⟩
  rw [← hlen]
  have e : sortK (m.map (·.1)) = ss.mergeSort (fun x y => decide (x ≤ y)) := (Go.mergeSort_of_perm_i hpm).symm
  rw [e]
  exact hrow
end
end Go.Proofs.Ytlcfjjjdhdfbdaa

/- live. -/
set_option linter.unusedSimpArgs false
set_option linter.unusedVariables false
set_option maxRecDepth 20000
namespace Go.Proofs.Ytlcfjjjdhdfbdaa
noncomputable section
open Go.Eng
def liveS : List (Nat × List Ctr) := [(5, [pnCtr]), (8, [fdCtr]), (9, [putCtr]), (7, [getCtr]), (12, [flCtr]), (15, [readCtr]), (14, [stCtr])]
def newA : List (Nat × List (Nat × Ann)) := [(6, [(500003, .ghost emFC [.tmp 1]), (500003, .ghost foKC [.tmp 21])]), (17, [(500002, .ghost spFC [.tmp 1]), (500002, .ghost nlRC [.tmp 1])])]
def liveCtr : Ctr := ⟨[], [], [], [], [], .one (.bool (.bool true)), [], []⟩
def liveCx : Cx := { specs := liveS, anns := newA }
-- BEGIN VC live
def liveX0 : SX := .f2 47 (.int 0) (.at .int 0)
def liveX1 : SX := .f2 47 (.int 0) (.at .int 3)
def liveX2 : SX := .us .g 304 (.int 2) (.int 0) (.int 0) (.int 0)
def liveX3 : SX := .us .g 267 liveX2 (.int 0) (.int 0) (.int 0)
def liveX4 : SX := .f2 47 (.int 0) (.at .int 4)
def liveX5 : SX := .us .g 309 (.int 4) (.int 0) (.int 0) (.int 0)
def liveX6 : SX := .f2 114 (.at .bytes 5) (.f1 31 (.at .bytes 5))
def liveX7 : SX := .us .g 300 liveX3 liveX5 (.int 1) liveX6
def liveX8 : SX := .us .g 299 liveX3 liveX5 (.int 1) liveX6
def liveX9 : SX := .f2 45 (.us .int 285 liveX8 liveX7 (.int 1) (.int 0)) (.int 0)
def liveX10 : SX := .f1 2 liveX9
def liveX11 : SX := .us .g 283 liveX8 liveX7 (.int 1) (.int 0)
def liveX12 : SX := .us .g 284 liveX8 liveX7 (.int 1) (.int 0)
def liveX13 : SX := .us .g 273 liveX11 (.int 0) (.int 0) (.int 0)
def liveX14 : SX := .us .ints 297 liveX13 (.int 0) (.int 0) (.int 0)
def liveX15 : SX := .us .g 295 liveX13 liveX12 liveX14 (.int 0)
def liveX16 : SX := .us .bytes 223 liveX15 (.int 1) (.int 0) (.int 0)
def liveX17 : SX := .f2 45 (.us .int 301 liveX3 liveX5 (.int 1) liveX6) (.int 0)
def liveX18 : SX := .f2 45 (.us .int 296 liveX13 liveX12 liveX14 (.int 0)) (.int 0)
def liveX19 : SX := .f2 45 (.at .int 15) (.int 0)
def liveX20 : SX := .f2 45 (.at .int 8) (.int 512)
def liveX21 : SX := .f2 45 (.f2 111 (.at .bytes 10) (.int 0)) (.int 7)
def liveX22 : SX := .f2 45 (.at .int 12) (.int 512)
def liveX23 : SX := .f2 45 (.f2 111 (.at .bytes 14) (.int 0)) (.int 7)
def liveX24 : SX := .us .g 294 liveX13 liveX12 liveX14 (.int 0)
def liveX25 : SX := .f2 45 (.us .int 258 liveX24 (.int 0) (.int 0) (.int 0)) (.int 1)
def liveX26 : SX := .f2 45 (.us .int 256 liveX24 (.int 0) (.int 0) (.int 0)) (.int 1)
def liveX27 : SX := .f2 155 (.bool .true) (.bool .false)
def liveVc : VC := (.all 0 .int (.imp liveX0 (.and (.imp liveX0 (.all 1 .int (.imp (.f2 47 (.int 0) (.at .int 1)) (.all 2 .int (.imp (.f2 47 (.int 0) (.at .int 2)) (.all 
    3 .int (.imp liveX1 (.need (.f2 155 (.f1 152 (.int 0)) (.us .ints 242 (.f1 154 (.int 0)) (.int 0) (.int 0) (.int 0))) (.need (.us .bool 251 (.f1 155 
    (.int 0)) (.f1 154 (.int 0)) liveX2 (.int 0)) (.need (.us .bool 268 liveX3 (.int 0) (.int 0) (.int 0)) (.need (.f2 45 (.us .int 257 liveX2 (.int 0) 
    (.int 0) (.int 0)) (.int 2)) (.and (.imp liveX0 (.and .tt (.imp liveX1 (.all 4 .int (.all 5 .bytes (.all 6 .int (.imp (.f2 155 (.at .bytes 5) (.us 
    .bytes 308 (.int 7) (.int 0) (.int 0) (.int 0))) (.imp liveX4 (.imp (.f2 47 (.f1 31 (.at .bytes 5)) (.at .int 6)) (.need (.f2 47 (.us .int 206 liveX5 
    (.int 0) (.int 0) (.int 0)) (.int 4611686018427387904)) (.need (.f2 47 (.us .int 211 liveX5 (.int 0) (.int 0) (.int 0)) (.int 1099511627776)) (.need 
    (.f2 47 (.f1 30 (.us .ints 209 liveX5 (.int 0) (.int 0) (.int 0))) (.int 140737488355328)) (.need (.f2 47 (.us .int 260 liveX3 (.int 0) (.int 0) (.int 
    0)) (.int 4611686018427387904)) (.need (.f2 47 (.f1 31 (.at .bytes 5)) (.f1 31 (.at .bytes 5))) (.need (.f2 50 liveX4 (.f2 45 (.f1 31 (.at .bytes 5)) 
    (.int 0))) (.need (.f2 47 (.us .int 206 liveX7 (.int 0) (.int 0) (.int 0)) (.int 4611686018427387904)) (.need (.f2 47 (.us .int 211 liveX7 (.int 0) 
    (.int 0) (.int 0)) (.int 1099511627776)) (.need (.f2 47 (.f1 30 (.us .ints 209 liveX7 (.int 0) (.int 0) (.int 0))) (.int 140737488355328)) (.need (.f2 
    47 (.us .int 205 liveX7 (.int 0) (.int 0) (.int 0)) (.int 4611686018427387904)) (.need (.f2 47 (.us .int 258 liveX8 (.int 0) (.int 0) (.int 0)) (.int 
    4611686018427387904)) (.need (.f2 47 (.us .int 259 liveX8 (.int 0) (.int 0) (.int 0)) (.int 4611686018427387904)) (.need (.f2 47 (.us .int 260 liveX8 
    (.int 0) (.int 0) (.int 0)) (.int 4611686018427387904)) (.all 7 .int (.all 8 .int (.all 9 .int (.all 10 .bytes (.imp (.f2 50 liveX10 (.f2 155 (.f2 114 
    (.at .bytes 10) (.at .int 8)) (.us .bytes 253 liveX11 (.f2 40 (.us .int 256 liveX11 (.int 0) (.int 0) (.int 0)) (.int (- (0 + 1)))) (.int 0) (.int 
    0)))) (.imp (.f2 50 (.f2 47 (.int 0) (.at .int 7)) (.f2 45 (.at .int 8) (.int 0))) (.imp (.f2 47 (.int 0) (.at .int 8)) (.imp (.f2 47 (.at .int 8) 
    (.f1 31 (.at .bytes 10))) (.imp (.f2 47 (.at .int 8) (.at .int 9)) (.need (.f2 47 (.us .int 206 liveX12 (.int 0) (.int 0) (.int 0)) (.int 
    2305843009213693952)) (.need (.f2 47 (.us .int 211 liveX12 (.int 0) (.int 0) (.int 0)) (.int 549755813888)) (.need (.f2 47 (.f1 30 (.us .ints 209 
    liveX12 (.int 0) (.int 0) (.int 0))) (.int 140737488355328)) (.need (.us .bool 305 liveX13 (.int 0) (.int 0) (.int 0)) (.need (.f2 47 (.us .int 205 
    liveX15 (.int 0) (.int 0) (.int 0)) (.int 4611686018427387904)) (.all 11 .int (.all 12 .int (.all 13 .int (.all 14 .bytes (.all 15 .int (.imp (.f2 155 
    (.f2 114 (.at .bytes 14) (.at .int 12)) liveX16) (.imp (.f2 45 (.at .int 12) (.f1 31 liveX16)) (.imp (.f2 47 (.at .int 12) (.f1 31 (.at .bytes 14))) 
    (.imp (.f2 47 (.at .int 12) (.at .int 13)) (.imp (.f2 45 (.at .int 15) (.us .int 213 liveX15 (.int 1) (.int 0) (.int 0))) (.imp (.f2 50 (.f2 47 (.int 
    0) (.at .int 11)) (.f2 45 (.at .int 12) (.int 0))) (.all 16 .int (.imp (.f2 47 (.int 0) (.at .int 16)) (.and (.imp liveX17 (.and (.imp liveX9 (.and 
    (.imp liveX18 (.and (.imp liveX19 (.and (.imp liveX20 (.need (.f2 46 (.int 0) (.at .int 8)) (.need (.f2 46 (.int 0) (.f1 31 (.at .bytes 10))) (.and 
    (.imp liveX21 (.need (.f2 47 (.int 0) (.at .int 12)) (.and (.imp liveX22 (.need (.f2 46 (.int 0) (.at .int 12)) (.need (.f2 46 (.int 0) (.f1 31 (.at 
    .bytes 14))) (.and (.imp liveX23 (.and (.imp liveX25 (.and (.imp liveX26 (.need (.f2 155 (.bool .true) (.f2 45 (.us .int 257 liveX24 (.int 0) (.int 0) 
    (.int 0)) (.int 2))) .tt)) (.imp (.f1 2 liveX26) (.need liveX27 .tt)))) (.imp (.f1 2 liveX25) (.need liveX27 .tt)))) (.imp (.f1 2 liveX23) (.need 
    liveX27 .tt)))))) (.imp (.f1 2 liveX22) (.need liveX27 .tt))))) (.imp (.f1 2 liveX21) (.need liveX27 .tt)))))) (.imp (.f1 2 liveX20) (.need liveX27 
    .tt)))) (.imp (.f1 2 liveX19) (.need liveX27 .tt)))) (.imp (.f1 2 liveX18) (.need liveX27 .tt)))) (.imp liveX10 (.need liveX27 .tt)))) (.imp (.f1 2 
    liveX17) (.need liveX27 .tt)))))))))))))))))))))))))))))))))))))))))))))))))))) .tt)))))))))))) .tt)))
theorem live_vc : vcOf Try.prog liveCx 12 4 liveCtr = liveVc := by kernel_rfl
-- END VC live
-- PROOFS
theorem dvNew_pages {p : Int} (h : 0 ≤ p) : (dvNew p).pages = p := by
  show ((List.replicate (512 * p.toNat) (0 : UInt8)).length : Int).tdiv 512 = p
  rw [List.length_replicate, show ((512 * p.toNat : Nat) : Int) = p * 512 by omega, Int.mul_tdiv_cancel _ (by decide)]
theorem dvNew_ref {p n : Int} (h0 : 0 ≤ n) (h1 : n < p) : (dvNew p).ref n = 0 := ref_in rfl h0 (by rw [dvNew_pages (by omega)]; exact h1)
theorem filled_len {x : Int} (h : 0 ≤ x) : (filledB x).length = 512 := by unfold filledB; rw [if_neg (by omega), List.length_replicate]
theorem filled_at {x : Int} {i : Nat} (h : 0 ≤ x) (h2 : x < 256) (hi : i < 512) : ((filledB x).getD i 0).toNat = x.toNat := by
  unfold filledB
  rw [if_neg (by omega), List.getD_eq_getElem?_getD, List.getElem?_replicate, if_pos hi, Option.getD_some, UInt8.toNat_ofNat']
  rw [Int.emod_eq_of_lt h h2, Nat.mod_eq_of_lt (by omega)]
def lvC1 : Cs := ⟨[⟨1, filledB 7, true, 0⟩], 2, 0, 0, 0⟩
def lvC2 : Cs := ⟨[⟨1, filledB 7, true, 0⟩], 2, 1, 0, 0⟩
def lvC3 : Cs := ⟨[⟨1, filledB 7, false, 0⟩], 2, 1, 0, 0⟩
def lvD : Dv := { dvNew 4 with wr := 1, w := [(1, filledB 7)] }
theorem lv_bad : ¬ Cs.bad (dvNew 4) 1 (filledB 7) := by
  have hl := filled_len (x := 7) (by decide)
  have hp := dvNew_pages (p := 4) (by decide)
  rintro (h | h | h)
  · omega
  · omega
  · exact h (by rw [hl]; rfl)
theorem lv_room : (csNew 2).roomE (dvNew 4) = 0 ∧ (csNew 2).roomC (dvNew 4) = csNew 2 ∧ (csNew 2).roomD (dvNew 4) = dvNew 4 := by
  have h : (((csNew 2).fr.length : Nat) : Int) < (csNew 2).frames := by decide
  exact ⟨if_pos h, if_pos (.inl h), if_pos (.inl h)⟩
theorem lv_hit0 : ¬ (csNew 2).hit 1 := by unfold Cs.hit; decide
theorem lv_put : (csNew 2).putE (dvNew 4) 1 (filledB 7) = 0 ∧ (csNew 2).putC (dvNew 4) 1 (filledB 7) = lvC1 ∧ (csNew 2).putD (dvNew 4) 1 (filledB 7) = dvNew 4 := by
  obtain ⟨r1, r2, r3⟩ := lv_room
  have hl := filled_len (x := 7) (by decide)
  have hp := dvNew_pages (p := 4) (by decide)
  refine ⟨?_, ?_, ?_⟩
  · unfold Cs.putE
    rw [if_neg (by omega), if_neg (fun h => h (by rw [hl]; rfl)), if_neg lv_hit0, r1]
  · unfold Cs.putC
    rw [if_neg lv_bad, if_neg lv_hit0, if_neg (fun h => h r1), r2]; rfl
  · unfold Cs.putD
    rw [if_neg (by rintro (h | h); exact lv_bad h; exact lv_hit0 h), r3]
theorem lv_hit1 : lvC1.hit 1 := by unfold Cs.hit; exact (by decide : 0 < 1)
theorem lv_hold : lvC1.holdE (dvNew 4) 1 = 0 ∧ lvC1.holdC (dvNew 4) 1 = lvC2 ∧ lvC1.holdD (dvNew 4) 1 = dvNew 4 :=
  ⟨if_pos lv_hit1, (if_pos lv_hit1).trans rfl, if_pos (.inl lv_hit1)⟩
theorem lv_keys : lvC2.keys = [1] := by
  show List.mergeSort [1] _ = [1]
  exact List.mergeSort_singleton ..
theorem lv_wr : (dvNew 4).wrE 1 (filledB 7) = 0 ∧ (dvNew 4).wrD 1 (filledB 7) = lvD := by
  have hl := filled_len (x := 7) (by decide)
  have hr := dvNew_ref (p := 4) (n := 1) (by decide) (by decide)
  have hlp : (((filledB 7).length : Nat) : Int) = (dvNew 4).page := by rw [hl]; rfl
  refine ⟨?_, ?_⟩
  · unfold Dv.wrE
    rw [if_neg (fun h => h hr), if_neg (fun h => h hlp)]; rfl
  · unfold Dv.wrD
    rw [if_neg (fun h => h hr), if_neg (fun h => h hlp)]; rfl
theorem lv_fl : flS [1] lvC2 (dvNew 4) = (lvC3, lvD, 0) := by
  rw [flS_cons]
  have e1 : lvC2.at' (lvC2.idx 1 : Nat) = ⟨1, filledB 7, true, 0⟩ := rfl
  rw [e1]
  simp only [cond_true]
  rw [if_pos lv_wr.1, lv_wr.2]; rfl
theorem csNew_good {f : Int} (h1 : 1 ≤ f) (h2 : f ≤ 4096) : GoodC (csNew f) := ⟨⟨h1, h2⟩, show ((0 : Nat) : Int) ≤ f by omega, List.nodup_nil, fun f hf => (nomatch hf), ⟨Int.le_refl _, Int.le_refl _, Int.le_refl _⟩, fun f hf => (nomatch hf)⟩
theorem csNew_held (f : Int) : heldOk [] [] (csNew f).fr := ⟨rfl, List.nodup_nil, List.Perm.refl _⟩
theorem lv_ref : lvD.ref 1 = 0 := ref_in rfl (by decide) (by show 1 < (dvNew 4).pages; rw [dvNew_pages (by decide)]; decide)
theorem lv_read : lvD.rdB 1 = filledB 7 := by
  unfold Dv.rdB
  rw [if_neg (fun h => h lv_ref)]; rfl
theorem live_specs {S : Sig GG} (hS : CsSig S) : SpecsOk S Try.prog liveS := ⟨one_spec (by decide) (pn_ok S hS), one_spec (by decide) (fd_ok S hS), one_spec (by decide) (put_ok S hS), one_spec (by decide) (get_ok S hS), one_spec (by decide) (fl_of S hS sorted_at), one_spec (by decide) (read_ok S hS.dv), one_spec (by decide) (st_ok S hS), trivial⟩
theorem live_ok (S : Sig GG) (hS : CsSig S) : CtrOk S Try.prog 4 liveCtr := by
  refine vcOf_sound S (C := liveCx) (fuel := 12) (cx_of (live_specs hS) ⟨⟨⟨by decide, emF_gh S hS⟩, ⟨by decide, foK_gh S hS⟩, trivial⟩, ⟨⟨by decide, spF_gh S⟩, ⟨by decide, nlR_gh S hS⟩, trivial⟩, trivial⟩ trivial) fun ρ => ?_
  rw [live_vc]
  simp only [liveVc, liveX0, liveX1, liveX2, liveX3, liveX4, liveX5, liveX6, liveX7, liveX8, liveX9, liveX10, liveX11, liveX12, liveX13, liveX14, liveX15, liveX16, liveX17, liveX18, liveX19, liveX20, liveX21, liveX22, liveX23, liveX24, liveX25, liveX26, liveX27, ap1_155, ap1_33, hS.u291, hS.u292, hS.u294, hS.u295, hS.u296, hS.u297, hS.u299, hS.u300, hS.u301, hS.u304, hS.u305, hS.u308, hS.u309, hS.u280, hS.u281, hS.u282, hS.u283, hS.u284, hS.u285, co_g, dvOf_g, hS.dv.u200, hS.dv.u201, hS.dv.u202, hS.dv.u203, hS.dv.u204, hS.dv.u205, hS.dv.u206, hS.dv.u207, hS.dv.u208, hS.dv.u209, hS.dv.u210, hS.dv.u211, hS.dv.u212, hS.dv.u213, hS.dv.u214, hS.dv.u215, hS.dv.u216, hS.dv.u217, hS.dv.u220, hS.dv.u221, hS.dv.u222, hS.dv.u223, hS.dv.u224, hS.dv.u225, hS.dv.u226, hS.dv.u227, hS.dv.u228, hS.dv.u229, hS.dv.u230, hS.dv.u231, hS.dv.u232, hS.dv.u233, hS.dv.u234, co_g, csOf_g, hS.rg.u240, hS.rg.u241, hS.rg.u242, hS.rg.u243, hS.rg.u244, hS.rg.u245, hS.rg.u246, hS.rg.u247, hS.rg.u248, hS.rg.u249, hS.u250, hS.u251, hS.u252, hS.u253, hS.u254, hS.u255, hS.u256, hS.u257, hS.u258, hS.u259, hS.u260, hS.u261, hS.u262, hS.u263, hS.u264, hS.u265, hS.u266, hS.u267, hS.u268, hS.u269, hS.u270, hS.u271, hS.u272, hS.u273, hS.u274, VC.den, SX.den, co_int, co_bool, co_bytes, co_ints, co_rows, co_map, Env.upd, p155, p153, p23, p45, p46, p47, p50, b46, b47, t46, t47, p2_45, ap1_2, ap1_30, ap1_31, ap1_32, ap1_152, ap1_153, ap1_154, ap2_40, ap2_41, ap2_42, ap2_43, ap2_45, p48_b, ap2_51i, ap2_52i, ap2_110, ap2_111, ap2_113, ap2_114, ap2_115, ap2_117, ap2_120, ap2_126, ap2_141, ap3_112, ap3_140, beq_iff_eq, Bool.not_eq_true', beq_eq_false_iff_ne, ne_eq, Bool.not_not, U.toProp_bool, U.toBool_bool, i64lo, i64hi, U.toInt_int, U.toInts_ints, U.toBytes_bytes, U.toRows_rows, U.toMap_amap, Int.toNat_zero, Nat.reduceEqDiff, reduceIte, propB_iff, leB_iff, ltB_iff, U.int.injEq, U.bool.injEq, U.bytes.injEq, U.ints.injEq, U.rows.injEq]
  have k0 : ({ fr := (csNew 2).fr, frames := (csNew 2).frames, hits := 0, misses := 0, evic := 0 } : Cs) = csNew 2 := rfl
  simp only [k0]
  intro b b0
  refine ⟨fun _ m m0 c c0 h h0 => ⟨rfl, csNew_held 2, csNew_good (by decide) (by decide), rfl, fun _ => ⟨trivial, fun _ p B cap hB p0 hcap => ?_⟩, trivial⟩, trivial⟩
  subst hB
  have hl := filled_len (x := 7) (by decide)
  have ht : (filledB 7).take (((filledB 7).length : Nat) : Int).toNat = filledB 7 := by rw [Int.toNat_natCast, List.take_length]
  obtain ⟨p1, p2, p3⟩ := lv_put
  obtain ⟨h1, h2, h3⟩ := lv_hold
  have hf := lv_fl
  simp only [ht, p1, p2, p3, h1, h2, h3, lv_keys, hf, lv_ref, lv_read]
  have z1 : (dvNew 4).wr = 0 := rfl
  have z2 : (dvNew 4).w = [] := rfl
  have z3 : (dvNew 4).keep = [] := rfl
  have z4 : (dvNew 4).rd = 0 := rfl
  have z5 : lvD.rd = 0 := rfl
  have z6 : lvC1.hits = 0 ∧ lvC1.misses = 0 ∧ lvC1.evic = 0 := ⟨rfl, rfl, rfl⟩
  simp only [z1, z2, z3, z4, z5, z6.1, z6.2.1, z6.2.2, List.length_nil]
  have key : ∀ {X : List UInt8} {l : Int}, X.take l.toNat = filledB 7 → (((X.getD 0 0).toNat : Nat) : Int) = 7 := by
    intro X l h
    have : (X.take l.toNat).getD 0 0 = X.getD 0 0 := by
      have h0 : 0 < l.toNat := by
        rcases Nat.eq_zero_or_pos l.toNat with e | e
        · rw [e, List.take_zero] at h; rw [← h] at hl; cases hl
        · exact e
      rw [List.getD_eq_getElem?_getD, List.getD_eq_getElem?_getD, List.getElem?_take_of_lt h0]
    rw [← this, h, filled_at (x := 7) (by decide) (by decide) (by decide)]; rfl
  refine ⟨by decide, by decide, by decide, by decide, Int.le_refl _, .inl p0, by decide, by decide, by decide, by decide, by decide, by decide, by decide, fun gb gl gc GB ho go1 go2 go3 go4 => ⟨by decide, by decide, by decide, ?_, by decide, fun rb rl rc RB re f1 f2 f3 f4 f5 f6 sb sb0 => ?_⟩⟩
  · intro f hf
    have hf : f ∈ [(⟨1, filledB 7, true, 0⟩ : Fr)] := hf
    rw [List.mem_singleton.1 hf]; exact ⟨by decide, by decide⟩
  · have hG : GB.take gl.toNat = filledB 7 := by
      have h := ho.resolve_left (fun h => h trivial)
      have h : (ap2 155 (U.bytes (GB.take gl.toNat)) (U.bytes (lvC2.at' ((lvC2.fr.length : Nat) + -(0 + 1))).b) : U GG).toProp := h
      rw [p155] at h
      injection h
    have hgl : gl = 512 := by
      have := congrArg List.length hG
      rw [List.length_take, hl] at this; omega
    have hrl : rl = 512 := by rw [f2, hl]; rfl
    have kG := key hG
    have kR := key f1
    simp only [hgl, hrl, kG, kR, f5]
    have y1 : lvC3.hits = 1 := rfl
    have y2 : ((lvC3.fr.length : Nat) : Int) = 1 := rfl
    have y3 : (lvC3.frames == 2) = true := rfl
    have y4 : (0 : Int) < 512 := by decide
    have y5 : (0 : Int) ≤ 512 := by decide
    have y6 : 0 < ((GB.length : Nat) : Int) := by omega
    have y7 : 0 < ((RB.length : Nat) : Int) := by omega
    simp only [y1, y2, y3, y4, y5, y6, y7, not_true_eq_false, false_implies, and_true, true_implies]
end
end Go.Proofs.Ytlcfjjjdhdfbdaa

/- CacheTells, in plain words: what stands behind each step. -/
set_option linter.unusedSimpArgs false
set_option linter.unusedVariables false
namespace Go.Proofs.Ytlcfjjjdhdfbdaa
noncomputable section
open Go.Eng
def isAt (l : List Int) (n : Int) : Int := l.getD n.toNat 0
def dN (c : Cs) : Nat := (c.fr.filter fun f => f.dirty).length
structure DvOk (d : Dv) : Prop where
  gd : GoodD d
  down : d.down = false
  acts : d.acts = -1
  page : d.page = 512
  pages : d.pages = 8
  keep : d.keep = []
/-- What is told is what was put; the pins are those that were put in. -/
structure Tell (c : Cs) (d : Dv) (is pins : List Int) : Prop where
  good : GoodC c
  dv : DvOk d
  isl : is.length = 8
  pinl : pins.length = 8
  isr : ∀ n, 0 ≤ n → n < 8 → 0 ≤ isAt is n ∧ isAt is n < 256
  rng : ∀ f ∈ c.fr, 0 ≤ f.n ∧ f.n < 8
  fb : ∀ f ∈ c.fr, f.b = filledB (isAt is f.n)
  dev : ∀ n, 0 ≤ n → n < 8 → (∀ f ∈ c.fr, f.n = n → f.dirty = false) → d.read n = filledB (isAt is n)
  pin : ∀ f ∈ c.fr, isAt pins f.n = f.pins
  unp : ∀ n, 0 ≤ n → n < 8 → (∀ f ∈ c.fr, f.n ≠ n) → isAt pins n = 0
/-- Nothing counts beyond the steps. -/
structure Cnt (c : Cs) (d : Dv) (i e : Int) : Prop where
  h : c.hits ≤ i
  m : c.misses ≤ i
  e : c.evic ≤ e
  r : d.rd ≤ i
  w : d.wr + dN c ≤ i
  l : (d.w.length : Int) + dN c ≤ i
  p : ∀ f ∈ c.fr, f.pins ≤ i
theorem Cnt.mono {c : Cs} {d : Dv} {i e j f : Int} (h : Cnt c d i e) (h1 : i ≤ j) (h2 : e ≤ f) : Cnt c d j f := by
  obtain ⟨a1, a2, a3, a4, a5, a6, a7⟩ := h
  exact ⟨by omega, by omega, by omega, by omega, by omega, by omega, fun g hg => by have := a7 g hg; omega⟩
theorem isAt_set {l : List Int} {n m v : Int} (hl : l.length = 8) (n0 : 0 ≤ n) (n1 : n < 8) (m0 : 0 ≤ m) (m1 : m < 8) : isAt (l.set n.toNat v) m = if m = n then v else isAt l m := by
  unfold isAt
  rw [List.getD_eq_getElem?_getD, List.getElem?_set]
  by_cases e : m = n
  · subst e; rw [if_pos rfl, if_pos (by omega), if_pos rfl]; rfl
  · rw [if_neg (by omega), if_neg e, ← List.getD_eq_getElem?_getD]
theorem b2n_eq {b : Bool} : (if b = true then 1 else 0) = b.toNat := by cases b <;> rfl
theorem mem_split {c : Cs} {i : Nat} (hi : i < c.fr.length) : c.fr = c.fr.take i ++ (c.at' (i : Nat) :: c.fr.drop (i + 1)) := split_at (d := fr0) hi
theorem gone_mem {c : Cs} (hg : (c.fr.map (·.n)).Nodup) {i : Nat} (hi : i < c.fr.length) {f : Fr} : f ∈ (c.gone (i : Nat)).fr ↔ f ∈ c.fr ∧ f.n ≠ (c.at' (i : Nat)).n := by
  have hs := mem_split hi
  have e : (c.gone (i : Nat)).fr = c.fr.take i ++ c.fr.drop (i + 1) := rfl
  rw [e]
  generalize c.at' (i : Nat) = x at *
  generalize c.fr.take i = A at *
  generalize c.fr.drop (i + 1) = B at *
  rw [hs] at hg ⊢
  rw [List.map_append, List.map_cons] at hg
  obtain ⟨_, h2, h3⟩ := List.nodup_append.1 hg
  rw [List.nodup_cons] at h2
  constructor
  · intro hf
    rcases List.mem_append.1 hf with q | q
    · exact ⟨List.mem_append_left _ q, fun e => h3 f.n (List.mem_map.2 ⟨f, q, rfl⟩) _ List.mem_cons_self e⟩
    · exact ⟨List.mem_append_right _ (List.mem_cons_of_mem _ q), fun e => h2.1 (List.mem_map.2 ⟨f, q, e⟩)⟩
  · rintro ⟨hf, hn⟩
    rcases List.mem_append.1 hf with q | q
    · exact List.mem_append_left _ q
    · rcases List.mem_cons.1 q with q | q
      · exact absurd (by rw [q]) hn
      · exact List.mem_append_right _ q
theorem put_mem {c : Cs} {i : Nat} {f g : Fr} : f ∈ (c.put (i : Nat) g).fr ↔ f = g ∨ f ∈ (c.gone (i : Nat)).fr := by
  show f ∈ c.fr.take i ++ g :: c.fr.drop (i + 1) ↔ f = g ∨ f ∈ c.fr.take i ++ c.fr.drop (i + 1)
  rw [List.mem_append, List.mem_cons, List.mem_append]
  constructor
  · rintro (h | h | h)
    · exact .inr (.inl h)
    · exact .inl h
    · exact .inr (.inr h)
  · rintro (h | h | h)
    · exact .inr (.inl h)
    · exact .inl h
    · exact .inr (.inr h)
theorem add_mem {c : Cs} {f g : Fr} : f ∈ (c.add g).fr ↔ f = g ∨ f ∈ c.fr := by
  show f ∈ c.fr ++ [g] ↔ _
  rw [List.mem_append, List.mem_singleton]; exact Or.comm
theorem dN_gone {c : Cs} {i : Nat} (hi : i < c.fr.length) : dN (c.gone (i : Nat)) + (c.at' (i : Nat)).dirty.toNat = dN c := by
  have hs := mem_split hi
  have e : (c.gone (i : Nat)).fr = c.fr.take i ++ c.fr.drop (i + 1) := rfl
  unfold dN
  rw [e]
  conv => rhs; rw [hs]
  rw [List.filter_append, List.filter_append, List.filter_cons, List.length_append, List.length_append]
  cases (c.at' (i : Nat)).dirty
  · show _ + 0 = _; rfl
  · show _ + 1 = _ + (_ + 1); omega
theorem dN_put {c : Cs} {i : Nat} {g : Fr} : dN (c.put (i : Nat) g) = dN (c.gone (i : Nat)) + g.dirty.toNat := by
  show ((c.fr.take i ++ g :: c.fr.drop (i + 1)).filter _).length = ((c.fr.take i ++ c.fr.drop (i + 1)).filter _).length + _
  rw [List.filter_append, List.filter_append, List.filter_cons, List.length_append, List.length_append]
  cases g.dirty
  · show _ = _ + 0; rfl
  · show _ + (_ + 1) = _ + 1; omega
theorem dN_add {c : Cs} {g : Fr} : dN (c.add g) = dN c + g.dirty.toNat := by
  show ((c.fr ++ [g]).filter _).length = _
  rw [List.filter_append, List.length_append]
  have e : ([g].filter fun f => f.dirty).length = g.dirty.toNat := by rw [List.filter_cons]; cases g.dirty <;> rfl
  rw [e]; rfl
section
variable {c : Cs} {d : Dv} {is pins : List Int} (h : Tell c d is pins)
include h
/-- One frame is another one, of the same page. -/
theorem Tell.repl {i : Nat} (hi : i < c.fr.length) {g : Fr} {c' : Cs} (hg : GoodC c') (hm : ∀ f, f ∈ c'.fr ↔ f = g ∨ f ∈ (c.gone (i : Nat)).fr) (hn : g.n = (c.at' (i : Nat)).n) {d' : Dv} (hd : DvOk d')
    (hr : ∀ m, 0 ≤ m → m < 8 → m ≠ g.n → d'.read m = d.read m) {is' pins' : List Int} (hl : is'.length = 8) (pl : pins'.length = 8) (hi' : ∀ m, 0 ≤ m → m < 8 → m ≠ g.n → isAt is' m = isAt is m) (hx : 0 ≤ isAt is' g.n ∧ isAt is' g.n < 256)
    (hp' : ∀ m, 0 ≤ m → m < 8 → m ≠ g.n → isAt pins' m = isAt pins m) (gb : g.b = filledB (isAt is' g.n)) (gd : g.dirty = false → d'.read g.n = filledB (isAt is' g.n)) (gp : isAt pins' g.n = g.pins) : Tell c' d' is' pins' := by
  have hgm : ∀ {f}, f ∈ (c.gone (i : Nat)).fr ↔ f ∈ c.fr ∧ f.n ≠ g.n := by intro f; rw [hn]; exact gone_mem h.good.nod hi
  have hat := at_mem hi
  have hrn : 0 ≤ g.n ∧ g.n < 8 := by rw [hn]; exact h.rng _ hat
  refine ⟨hg, hd, hl, pl, fun m m0 m1 => ?_, fun f hf => ?_, fun f hf => ?_, fun m m0 m1 hc => ?_, fun f hf => ?_, fun m m0 m1 hc => ?_⟩
  · by_cases e : m = g.n
    · rw [e]; exact hx
    · rw [hi' m m0 m1 e]; exact h.isr m m0 m1
  · rcases (hm f).1 hf with e | q
    · rw [e]; exact hrn
    · exact h.rng f (hgm.1 q).1
  · rcases (hm f).1 hf with e | q
    · rw [e]; exact gb
    · obtain ⟨q1, q2⟩ := hgm.1 q
      have := h.rng f q1
      rw [hi' _ this.1 this.2 q2]; exact h.fb f q1
  · by_cases e : m = g.n
    · rw [e]; exact gd (hc g ((hm g).2 (.inl rfl)) e.symm)
    · rw [hr m m0 m1 e, hi' m m0 m1 e]
      exact h.dev m m0 m1 fun f hf hfn => hc f ((hm f).2 (.inr (hgm.2 ⟨hf, by rw [hfn]; exact e⟩))) hfn
  · rcases (hm f).1 hf with e | q
    · rw [e]; exact gp
    · obtain ⟨q1, q2⟩ := hgm.1 q
      have := h.rng f q1
      rw [hp' _ this.1 this.2 q2]; exact h.pin f q1
  · by_cases e : m = g.n
    · exact absurd e.symm (hc g ((hm g).2 (.inl rfl)))
    · rw [hp' m m0 m1 e]
      refine h.unp m m0 m1 fun f hf hfn => ?_
      exact hc f ((hm f).2 (.inr (hgm.2 ⟨hf, by rw [hfn]; exact e⟩))) hfn
/-- One goes. -/
theorem Tell.drop {i : Nat} (hi : i < c.fr.length) {c' : Cs} (hg : GoodC c') (hm : ∀ f, f ∈ c'.fr ↔ f ∈ (c.gone (i : Nat)).fr) {d' : Dv} (hd : DvOk d') (hr : ∀ m, 0 ≤ m → m < 8 → m ≠ (c.at' (i : Nat)).n → d'.read m = d.read m)
    (hx : d'.read (c.at' (i : Nat)).n = filledB (isAt is (c.at' (i : Nat)).n)) (hp : (c.at' (i : Nat)).pins = 0) : Tell c' d' is pins := by
  have hgm : ∀ {f}, f ∈ (c.gone (i : Nat)).fr ↔ f ∈ c.fr ∧ f.n ≠ (c.at' (i : Nat)).n := by intro f; exact gone_mem h.good.nod hi
  have hat := at_mem hi
  refine ⟨hg, hd, h.isl, h.pinl, h.isr, fun f hf => h.rng f (hgm.1 ((hm f).1 hf)).1, fun f hf => h.fb f (hgm.1 ((hm f).1 hf)).1, fun m m0 m1 hc => ?_, fun f hf => h.pin f (hgm.1 ((hm f).1 hf)).1, fun m m0 m1 hc => ?_⟩
  · by_cases e : m = (c.at' (i : Nat)).n
    · rw [e]; exact hx
    · rw [hr m m0 m1 e]
      exact h.dev m m0 m1 fun f hf hfn => hc f ((hm f).2 (hgm.2 ⟨hf, by rw [hfn]; exact e⟩)) hfn
  · by_cases e : m = (c.at' (i : Nat)).n
    · rw [e, h.pin _ hat]; exact hp
    · refine h.unp m m0 m1 fun f hf hfn => ?_
      exact hc f ((hm f).2 (hgm.2 ⟨hf, by rw [hfn]; exact e⟩)) hfn
/-- One comes. -/
theorem Tell.come {g : Fr} {c' : Cs} (hg : GoodC c') (hm : ∀ f, f ∈ c'.fr ↔ f = g ∨ f ∈ c.fr) (hn : ∀ f ∈ c.fr, f.n ≠ g.n) (h0 : 0 ≤ g.n) (h1 : g.n < 8) {d' : Dv} (hd : DvOk d') (hr : ∀ m, 0 ≤ m → m < 8 → d'.read m = d.read m) {is' : List Int} (hl : is'.length = 8)
    (hi' : ∀ m, 0 ≤ m → m < 8 → m ≠ g.n → isAt is' m = isAt is m) (hx : 0 ≤ isAt is' g.n ∧ isAt is' g.n < 256) (gb : g.b = filledB (isAt is' g.n)) (gd : g.dirty = false → d.read g.n = filledB (isAt is' g.n)) (gp : g.pins = 0) : Tell c' d' is' pins := by
  refine ⟨hg, hd, hl, h.pinl, fun m m0 m1 => ?_, fun f hf => ?_, fun f hf => ?_, fun m m0 m1 hc => ?_, fun f hf => ?_, fun m m0 m1 hc => ?_⟩
  · by_cases e : m = g.n
    · rw [e]; exact hx
    · rw [hi' m m0 m1 e]; exact h.isr m m0 m1
  · rcases (hm f).1 hf with e | q
    · rw [e]; exact ⟨h0, h1⟩
    · exact h.rng f q
  · rcases (hm f).1 hf with e | q
    · rw [e]; exact gb
    · have := h.rng f q
      rw [hi' _ this.1 this.2 (hn f q)]; exact h.fb f q
  · rw [hr m m0 m1]
    by_cases e : m = g.n
    · rw [e]; exact gd (hc g ((hm g).2 (.inl rfl)) e.symm)
    · rw [hi' m m0 m1 e]
      exact h.dev m m0 m1 fun f hf hfn => hc f ((hm f).2 (.inr hf)) hfn
  · rcases (hm f).1 hf with e | q
    · rw [e, gp]; exact h.unp _ h0 h1 hn
    · exact h.pin f q
  · exact h.unp m m0 m1 fun f hf => hc f ((hm f).2 (.inr hf))
end
/-- A device that is up and not armed: a write. -/
theorem wr_ok {d : Dv} (h : DvOk d) {n : Int} {x : List UInt8} (h0 : 0 ≤ n) (h1 : n < 8) (hx : x.length = 512) :
    d.wrE n x = 0 ∧ DvOk (d.wrD n x) ∧ (d.wrD n x).read n = x ∧ (∀ m, m ≠ n → (d.wrD n x).read m = d.read m) ∧ (d.wrD n x).wr = d.wr + 1 ∧ (d.wrD n x).w.length = d.w.length + 1 ∧ (d.wrD n x).rd = d.rd := by
  have hr := ref_in h.down h0 (by rw [h.pages]; exact h1)
  have hl : ((x.length : Nat) : Int) = d.page := by rw [hx, h.page]; rfl
  have ha : ¬ d.acts = 0 := by rw [h.acts]; decide
  have e : d.wrD n x = { d with wr := d.wr + 1, w := d.w ++ [(n, x)], acts := actN d.acts } := by
    unfold Dv.wrD
    rw [if_neg (fun q => q hr), if_neg (fun q => q hl)]
    unfold Dv.writ
    simp only
    rw [if_neg ha]
  have hacts : actN d.acts = -1 := by rw [h.acts]; rfl
  refine ⟨?_, ?_, ?_, fun m hm => ?_, ?_, ?_, ?_⟩
  · unfold Dv.wrE
    rw [if_neg (fun q => q hr), if_neg (fun q => q hl), if_neg ha]
  · rw [e]
    exact ⟨good_acts (good_push h.gd h0 (by rw [h.pages]; exact h1) hl), h.down, hacts, h.page, h.pages, h.keep⟩
  · rw [e]
    unfold Dv.read
    have hls : Dv.last { d with wr := d.wr + 1, w := d.w ++ [(n, x)], acts := actN d.acts } n = d.w.length := by
      show lastG n 0 (d.w ++ [(n, x)]) (-1) = _
      rw [last_snoc, if_pos rfl]
    rw [hls, if_pos (by omega)]
    show ((d.w ++ [(n, x)]).getD ((d.w.length : Nat) : Int).toNat (0, [])).2 = x
    rw [Int.toNat_natCast, List.getD_eq_getElem?_getD, List.getElem?_append_right (Nat.le_refl _), Nat.sub_self]; rfl
  · rw [e]
    unfold Dv.read
    have hls : Dv.last { d with wr := d.wr + 1, w := d.w ++ [(n, x)], acts := actN d.acts } m = d.last m := by
      show lastG m 0 (d.w ++ [(n, x)]) (-1) = _
      rw [last_snoc, if_neg (Ne.symm hm)]
    rw [hls]
    by_cases hq : 0 ≤ d.last m
    · rw [if_pos hq, if_pos hq]
      have := (last_lt d m).2
      show ((d.w ++ [(n, x)]).getD (d.last m).toNat (0, [])).2 = (d.w.getD (d.last m).toNat (0, [])).2
      rw [List.getD_eq_getElem?_getD, List.getElem?_append_left (by omega), ← List.getD_eq_getElem?_getD]
    · rw [if_neg hq, if_neg hq]; rfl
  · rw [e]
  · rw [e]; show (d.w ++ [(n, x)]).length = _; rw [List.length_append]; rfl
  · rw [e]
end
end Go.Proofs.Ytlcfjjjdhdfbdaa

/- CacheTells, in plain words: room, hold, Put, Pin, Unpin, Flush. -/
set_option linter.unusedSimpArgs false
set_option linter.unusedVariables false
namespace Go.Proofs.Ytlcfjjjdhdfbdaa
noncomputable section
open Go.Eng
/-- The oldest that is not pinned. -/
theorem old_pins {c : Cs} (h : c.old < c.fr.length) : c.oldF.pins = 0 := by
  have := idxL_at (P := fun f => f.pins == 0) h
  exact beq_iff_eq.1 this
theorem old_none {c : Cs} (h : c.fr.length ≤ c.old) : ∀ f ∈ c.fr, f.pins ≠ 0 := by
  intro f hf e
  obtain ⟨i, hi, e2⟩ := List.getElem_of_mem hf
  have := (idxL_lt (P := fun f => f.pins == 0) (l := c.fr) (i := i) (Nat.lt_of_lt_of_le hi h)).2
  rw [List.getD_eq_getElem?_getD, List.getElem?_eq_getElem hi, Option.getD_some, e2] at this
  rw [e] at this; simp at this
theorem GoodC.evict {c : Cs} (h : GoodC c) : GoodC c.evict := by
  have g := h.gone ((c.old : Nat) : Int)
  have hc := h.cnt
  exact ⟨g.frames, g.len, g.nod, g.pins, ⟨hc.1, hc.2.1, show 0 ≤ c.evic + 1 by omega⟩, g.b⟩
section
variable {c : Cs} {d : Dv} {is pins : List Int} {i : Int}
theorem tell_room (h : Tell c d is pins) (k : Cnt c d i i) :
    (c.roomE d = 0 ∧ Tell (c.roomC d) (c.roomD d) is pins ∧ Cnt (c.roomC d) (c.roomD d) i (i + 1) ∧ ((c.roomC d).fr.length : Int) < (c.roomC d).frames ∧ ∀ f ∈ (c.roomC d).fr, f ∈ c.fr) ∨ (c.roomE d = 40 ∧ c.roomC d = c ∧ c.roomD d = d ∧ c.stuck) := by
  by_cases h1 : (c.fr.length : Int) < c.frames
  · have e1 : c.roomC d = c := if_pos (.inl h1)
    have e2 : c.roomD d = d := if_pos (.inl h1)
    have e3 : c.roomE d = 0 := if_pos h1
    rw [e1, e2]
    exact .inl ⟨e3, h, k.mono (Int.le_refl _) (by omega), h1, fun f hf => hf⟩
  by_cases h2 : c.fr.length ≤ c.old
  · refine .inr ⟨?_, if_pos (.inr h2), if_pos (.inr h2), by omega, h2⟩
    unfold Cs.roomE
    rw [if_neg h1, if_pos h2]
  have ho : c.old < c.fr.length := by omega
  have hat : c.oldF ∈ c.fr := at_mem ho
  have hrn := h.rng _ hat
  have hfb := h.fb _ hat
  have his := h.isr _ hrn.1 hrn.2
  have hbl : c.oldF.b.length = 512 := by rw [hfb]; exact filled_len his.1
  have hge := h.good.evict
  have hlen : (c.evict.fr.length : Int) < c.evict.frames := by
    have := h.good.len
    show ((c.fr.take ((c.old : Nat) : Int).toNat ++ c.fr.drop (((c.old : Nat) : Int).toNat + 1)).length : Int) < c.frames
    rw [Int.toNat_natCast, List.length_append, List.length_take, List.length_drop]; omega
  have hdn : dN c.evict + c.oldF.dirty.toNat = dN c := dN_gone ho
  obtain ⟨k1, k2, k3, k4, k5, k6, k7⟩ := k
  have hrC : ¬ (c.oldF.dirty = true ∧ d.wrE c.oldF.n c.oldF.b ≠ 0) := fun q => q.2 (wr_ok h.dv hrn.1 hrn.2 hbl).1
  have eC : c.roomC d = c.evict := by unfold Cs.roomC; rw [if_neg (by omega), if_neg hrC]
  have eE : c.roomE d = 0 := by
    unfold Cs.roomE
    rw [if_neg h1, if_neg h2]
    by_cases hd : c.oldF.dirty = true
    · rw [if_pos hd]; exact (wr_ok h.dv hrn.1 hrn.2 hbl).1
    · rw [if_neg hd]
  rw [eC]
  refine .inl ⟨eE, ?_⟩
  by_cases hd : c.oldF.dirty = true
  · have eD : c.roomD d = d.wrD c.oldF.n c.oldF.b := by unfold Cs.roomD; rw [if_neg (by omega), if_pos hd]
    obtain ⟨w1, w2, w3, w4, w5, w6, w7⟩ := wr_ok h.dv hrn.1 hrn.2 hbl
    rw [eD]
    rw [hd] at hdn
    have hdn : dN c.evict + 1 = dN c := hdn
    refine ⟨h.drop ho hge (fun f => Iff.rfl) w2 (fun m _ _ e => w4 m e) (w3.trans hfb) (old_pins ho), ⟨k1, k2, show c.evic + 1 ≤ i + 1 by omega, by omega, by omega, by omega, fun f hf => k7 f (evict_sub f hf)⟩, hlen, evict_sub⟩
  · have hd0 : c.oldF.dirty = false := by cases q : c.oldF.dirty; rfl; exact absurd q hd
    have eD : c.roomD d = d := by unfold Cs.roomD; rw [if_neg (by omega), if_neg hd]
    rw [eD]
    rw [hd0] at hdn
    have hdn : dN c.evict + 0 = dN c := hdn
    have hcl : ∀ f ∈ c.fr, f.n = c.oldF.n → f.dirty = false := by
      intro f hf e
      by_cases q : f ∈ (c.gone (c.old : Nat)).fr
      · exact absurd e ((gone_mem h.good.nod ho).1 q).2
      · have : f = c.oldF := by
          rw [mem_split ho] at hf
          rcases List.mem_append.1 hf with p | p
          · exact absurd (List.mem_append_left _ p) q
          · rcases List.mem_cons.1 p with p | p
            · exact p
            · exact absurd (List.mem_append_right _ p) q
        rw [this]; exact hd0
    refine ⟨h.drop ho hge (fun f => Iff.rfl) h.dv (fun m _ _ _ => rfl) (h.dev _ hrn.1 hrn.2 hcl) (old_pins ho), ⟨k1, k2, show c.evic + 1 ≤ i + 1 by omega, by omega, by omega, by omega, fun f hf => k7 f (evict_sub f hf)⟩, hlen, evict_sub⟩
theorem hit_rng (h : Tell c d is pins) {n : Int} (hj : c.hit n) : 0 ≤ n ∧ n < 8 := by
  have := h.rng _ (at_mem hj)
  have e : (c.at' (c.idx n : Nat)).n = n := Cs.idx_n hj
  rwa [e] at this
theorem no_n {n : Int} (hno : ¬ c.hit n) : ∀ f ∈ c.fr, f.n ≠ n := by
  intro f hf e
  have := no_hit hno f hf
  rw [e] at this; simp at this
/-- The last frame. -/
def Cs.lastF (c : Cs) : Fr := c.at' (((c.fr.length : Nat) : Int) + -1)
theorem add_last (c : Cs) (f : Fr) : (c.add f).lastF = f := by
  show (c.fr ++ [f]).getD ((((c.fr ++ [f]).length : Nat) : Int) + -1).toNat fr0 = f
  rw [List.length_append]
  show (c.fr ++ [f]).getD ((((c.fr.length + 1 : Nat)) : Int) + -1).toNat fr0 = f
  rw [show ((((c.fr.length + 1 : Nat)) : Int) + -1).toNat = c.fr.length by omega, List.getD_eq_getElem?_getD, List.getElem?_append_right (Nat.le_refl _), Nat.sub_self]; rfl
theorem rdd_ok {d : Dv} (h : DvOk d) {n : Int} (h0 : 0 ≤ n) (h1 : n < 8) : d.ref n = 0 ∧ d.rdB n = d.read n ∧ DvOk (d.rdD n) ∧ (∀ m, (d.rdD n).read m = d.read m) ∧ (d.rdD n).rd = d.rd + 1 ∧ (d.rdD n).wr = d.wr ∧ (d.rdD n).w = d.w := by
  have hr := ref_in h.down h0 (by rw [h.pages]; exact h1)
  rw [rdB_ok hr, rdD_ok hr]
  exact ⟨hr, rfl, ⟨good_rd h.gd, h.down, h.acts, h.page, h.pages, h.keep⟩, fun m => rfl, rfl, rfl, rfl⟩
theorem tell_hold (h : Tell c d is pins) (k : Cnt c d i i) (n : Int) :
    Tell (c.holdC d n) (c.holdD d n) is pins ∧ Cnt (c.holdC d n) (c.holdD d n) (i + 1) (i + 1) ∧
      (c.holdE d n = 0 ∧ 0 ≤ n ∧ n < 8 ∧ (c.holdC d n).lastF.n = n ∨ c.holdE d n = 40 ∧ c.stuck ∧ c.holdC d n = c ∨ c.holdE d n = 30 ∧ ¬ (0 ≤ n ∧ n < 8)) := by
  by_cases hj : c.hit n
  · have e1 : c.holdC d n = c.hitC n := if_pos hj
    have e2 : c.holdD d n = d := if_pos (.inl hj)
    have e3 : c.holdE d n = 0 := if_pos hj
    have hn : (c.at' (c.idx n : Nat)).n = n := Cs.idx_n hj
    have hr := hit_rng h hj
    have hat := at_mem hj
    have hgd : GoodC (c.hitC n) := by
      have hnd : ((c.fr.take (c.idx n) ++ c.fr.drop (c.idx n + 1) ++ [c.fr.getD (c.idx n) fr0]).map (·.n)).Nodup := by
        have p : (c.fr.take (c.idx n) ++ c.fr.drop (c.idx n + 1) ++ [c.fr.getD (c.idx n) fr0]).Perm c.fr := by
          conv => rhs; rw [split_at (d := fr0) hj]
          rw [List.append_assoc]
          exact (List.perm_append_comm).append_left _
        exact (p.map (·.n)).nodup_iff.2 h.good.nod
      exact h.good.hit hj hnd
    have hm : ∀ f, f ∈ (c.hitC n).fr ↔ f = c.at' (c.idx n : Nat) ∨ f ∈ (c.gone (c.idx n : Nat)).fr := fun f => add_mem
    have hdn : dN (c.hitC n) = dN c := by
      have a := dN_add (c := c.gone (c.idx n : Nat)) (g := c.at' (c.idx n : Nat))
      have b := dN_gone hj
      exact a.trans b
    have hi' : ∀ f ∈ (c.hitC n).fr, f ∈ c.fr := by
      intro f hf
      rcases (hm f).1 hf with e | e
      · rw [e]; exact hat
      · exact ((gone_mem h.good.nod hj).1 e).1
    rw [e1, e2, e3]
    obtain ⟨k1, k2, k3, k4, k5, k6, k7⟩ := k
    refine ⟨h.repl hj hgd hm rfl h.dv (fun _ _ _ _ => rfl) h.isl h.pinl (fun _ _ _ _ => rfl) (by rw [hn]; exact h.isr n hr.1 hr.2) (fun _ _ _ _ => rfl) (h.fb _ hat) (fun hd => ?_) (h.pin _ hat), ⟨show c.hits + 1 ≤ i + 1 by omega, by show c.misses ≤ _; omega, by show c.evic ≤ _; omega, by omega, by omega, by omega, fun f hf => by have := k7 f (hi' f hf); omega⟩, .inl ⟨rfl, hr.1, hr.2, ?_⟩⟩
    · refine h.dev _ (by rw [hn]; exact hr.1) (by rw [hn]; exact hr.2) fun f hf e => ?_
      by_cases q : f ∈ (c.gone (c.idx n : Nat)).fr
      · exact absurd e ((gone_mem h.good.nod hj).1 q).2
      · have : f = c.at' (c.idx n : Nat) := by
          rw [mem_split hj] at hf
          rcases List.mem_append.1 hf with p | p
          · exact absurd (List.mem_append_left _ p) q
          · rcases List.mem_cons.1 p with p | p
            · exact p
            · exact absurd (List.mem_append_right _ p) q
        rw [this]; exact hd
    · have : (c.hitC n).lastF = c.at' (c.idx n : Nat) := add_last (c.gone (c.idx n : Nat)) _
      rw [this]; exact hn
  by_cases hs : c.stuck
  · have e1 : c.holdC d n = c := by unfold Cs.holdC; rw [if_neg hj, if_pos (.inl hs)]
    have e2 : c.holdD d n = d := if_pos (.inr (.inl hs))
    have e3 : c.holdE d n = 40 := by unfold Cs.holdE; rw [if_neg hj, if_pos hs]
    rw [e1, e2, e3]
    exact ⟨h, k.mono (by omega) (by omega), .inr (.inl ⟨rfl, hs, rfl⟩)⟩
  by_cases hr : 0 ≤ n ∧ n < 8
  · obtain ⟨r1, r2, r3, r4, r5, r6, r7⟩ := rdd_ok h.dv hr.1 hr.2
    have hno := no_n hj
    have h2 : Tell c (d.rdD n) is pins := ⟨h.good, r3, h.isl, h.pinl, h.isr, h.rng, h.fb, fun m m0 m1 hc => by rw [r4]; exact h.dev m m0 m1 hc, h.pin, h.unp⟩
    obtain ⟨k1, k2, k3, k4, k5, k6, k7⟩ := k
    have kk : Cnt c (d.rdD n) (i + 1) (i + 1) := ⟨by omega, by omega, by omega, by omega, by omega, by rw [r7]; omega, fun f hf => by have := k7 f hf; omega⟩
    have hstk : ¬ (c.roomE (d.rdD n) = 40 ∧ c.roomC (d.rdD n) = c ∧ c.roomD (d.rdD n) = d.rdD n ∧ c.stuck) := fun q => hs q.2.2.2
    obtain ⟨t1, t2, t3, t4, t5⟩ := (tell_room h2 kk).resolve_right hstk
    have hev : (c.roomC (d.rdD n)).evic ≤ i + 1 := by
      rcases room_or c (d.rdD n) with e | e
      · rw [e]; omega
      · rw [e]; show c.evic + 1 ≤ _; omega
    have e1 : c.holdC d n = (c.roomC (d.rdD n)).came n (d.rdB n) := by unfold Cs.holdC; rw [if_neg hj, if_neg (by rintro (q | q); exact hs q; exact q r1), if_neg (fun q => q t1)]
    have e2 : c.holdD d n = c.roomD (d.rdD n) := if_neg (by rintro (q | q | q); exact hj q; exact hs q; exact q r1)
    have e3 : c.holdE d n = 0 := by unfold Cs.holdE; rw [if_neg hj, if_neg hs, if_neg (fun q => q r1)]; exact t1
    have hfb : d.read n = filledB (isAt is n) := h.dev n hr.1 hr.2 fun f hf e => absurd e (hno f hf)
    have hisr := h.isr n hr.1 hr.2
    have hgc : GoodC ((c.roomC (d.rdD n)).came n (d.rdB n)) := by
      have g := t2.good
      have hc := g.cnt
      refine ⟨g.frames, ?_, ?_, ?_, ⟨hc.1, show 0 ≤ (c.roomC (d.rdD n)).misses + 1 by omega, hc.2.2⟩, ?_⟩
      · show (((c.roomC (d.rdD n)).fr ++ [_]).length : Int) ≤ (c.roomC (d.rdD n)).frames
        rw [List.length_append]; show (((c.roomC (d.rdD n)).fr.length + 1 : Nat) : Int) ≤ _; omega
      · show (((c.roomC (d.rdD n)).fr ++ [(⟨n, d.rdB n, false, 0⟩ : Fr)]).map (fun f : Fr => f.n)).Nodup
        rw [List.map_append, List.nodup_append]
        refine ⟨g.nod, by simp, ?_⟩
        intro a ha b hb e
        obtain ⟨f, hf, hfe⟩ := List.mem_map.1 ha
        have hb : b = n := by simpa using hb
        exact hno f (t5 f hf) (by rw [hfe, e, hb])
      · intro f hf
        rcases add_mem.1 (show f ∈ ((c.roomC (d.rdD n)).add _).fr from hf) with e | e
        · rw [e]; exact Int.le_refl _
        · exact g.pins f e
      · intro f hf
        rcases add_mem.1 (show f ∈ ((c.roomC (d.rdD n)).add _).fr from hf) with e | e
        · rw [e]; show (d.rdB n).length ≤ _; rw [r2, hfb, filled_len hisr.1]; decide
        · exact g.b f e
    rw [e1, e2, e3]
    have hdn : dN ((c.roomC (d.rdD n)).came n (d.rdB n)) = dN (c.roomC (d.rdD n)) := dN_add
    obtain ⟨j1, j2, j3, j4, j5, j6, j7⟩ := t3
    have hmi : (c.roomC (d.rdD n)).misses = c.misses := by
      rcases room_or c (d.rdD n) with e | e <;> rw [e]; rfl
    refine ⟨t2.come (g := ⟨n, d.rdB n, false, 0⟩) hgc (fun f => add_mem) (fun f hf => hno f (t5 f hf)) hr.1 hr.2 t2.dv (fun _ _ _ => rfl) h.isl (fun _ _ _ _ => rfl) hisr (by show d.rdB n = _; rw [r2, hfb]) (fun _ => t2.dev n hr.1 hr.2 fun f hf e => absurd e (hno f (t5 f hf))) rfl,
      ⟨j1, by show (c.roomC (d.rdD n)).misses + 1 ≤ _; omega, hev, j4, by omega, by omega, fun f hf => ?_⟩, .inl ⟨rfl, hr.1, hr.2, ?_⟩⟩
    · rcases add_mem.1 (show f ∈ ((c.roomC (d.rdD n)).add _).fr from hf) with e | e
      · rw [e]; show (0 : Int) ≤ _; have := h.good.cnt; omega
      · exact j7 f e
    · have : ((c.roomC (d.rdD n)).came n (d.rdB n)).lastF = ⟨n, d.rdB n, false, 0⟩ := add_last _ _
      rw [this]
  · have hrf : d.ref n = 30 := ref_out h.dv.down (by rw [h.dv.pages]; omega)
    have hr0 : d.ref n ≠ 0 := by rw [hrf]; decide
    have e1 : c.holdC d n = c := by unfold Cs.holdC; rw [if_neg hj, if_pos (.inr hr0)]
    have e2 : c.holdD d n = d := if_pos (.inr (.inr hr0))
    have e3 : c.holdE d n = 30 := by unfold Cs.holdE; rw [if_neg hj, if_neg hs, if_pos hr0, hrf]
    rw [e1, e2, e3]
    exact ⟨h, k.mono (by omega) (by omega), .inr (.inr ⟨rfl, hr⟩)⟩
end
end
end Go.Proofs.Ytlcfjjjdhdfbdaa

/- CacheTells, in plain words: Put, Pin, Unpin, Flush. -/
set_option linter.unusedSimpArgs false
set_option linter.unusedVariables false
namespace Go.Proofs.Ytlcfjjjdhdfbdaa
noncomputable section
open Go.Eng
theorem same_f {c : Cs} (hg : GoodC c) {i : Nat} (hi : i < c.fr.length) {f : Fr} (hf : f ∈ c.fr) (e : f.n = (c.at' (i : Nat)).n) : f = c.at' (i : Nat) := by
  by_cases q : f ∈ (c.gone (i : Nat)).fr
  · exact absurd e ((gone_mem hg.nod hi).1 q).2
  · rw [mem_split hi] at hf
    rcases List.mem_append.1 hf with p | p
    · exact absurd (List.mem_append_left _ p) q
    · rcases List.mem_cons.1 p with p | p
      · exact p
      · exact absurd (List.mem_append_right _ p) q
theorem GoodC.addF {c : Cs} (g : GoodC c) (hl : (c.fr.length : Int) < c.frames) {f : Fr} (hn : ∀ x ∈ c.fr, x.n ≠ f.n) (hp : 0 ≤ f.pins) (hb : f.b.length ≤ 65536) : GoodC (c.add f) := by
  refine ⟨g.frames, ?_, ?_, ?_, g.cnt, ?_⟩
  · show ((c.fr ++ [_]).length : Int) ≤ c.frames
    rw [List.length_append]; show ((c.fr.length + 1 : Nat) : Int) ≤ _; omega
  · show ((c.fr ++ [f]).map (fun f : Fr => f.n)).Nodup
    rw [List.map_append, List.nodup_append]
    refine ⟨g.nod, by simp, ?_⟩
    intro a ha b hb e
    obtain ⟨x, hx, hxe⟩ := List.mem_map.1 ha
    have hb : b = f.n := by simpa using hb
    exact hn x hx (by rw [hxe, e, hb])
  · intro x hx
    rcases add_mem.1 hx with e | e
    · rw [e]; exact hp
    · exact g.pins x e
  · intro x hx
    rcases add_mem.1 hx with e | e
    · rw [e]; exact hb
    · exact g.b x e
section
variable {c : Cs} {d : Dv} {is pins : List Int} {i : Int}
open Classical in
theorem tell_put (h : Tell c d is pins) (k : Cnt c d i i) {n x : Int} (x0 : 0 ≤ x) (x1 : x < 256) :
    Cnt (c.putC d n (filledB x)) (c.putD d n (filledB x)) (i + 1) (i + 1) ∧
      (c.putE d n (filledB x) = 0 ∧ 0 ≤ n ∧ n < 8 ∧ Tell (c.putC d n (filledB x)) (c.putD d n (filledB x)) (is.set n.toNat x) pins ∨
       c.putE d n (filledB x) = 40 ∧ c.stuck ∧ c.putC d n (filledB x) = c ∧ Tell (c.putC d n (filledB x)) (c.putD d n (filledB x)) is pins ∨
       c.putE d n (filledB x) = 30 ∧ ¬ (0 ≤ n ∧ n < 8) ∧ Tell (c.putC d n (filledB x)) (c.putD d n (filledB x)) is pins) := by
  have hl := filled_len x0
  have hpl : (((filledB x).length : Nat) : Int) = d.page := by rw [hl, h.dv.page]; rfl
  by_cases hr : 0 ≤ n ∧ n < 8
  · have hbad : ¬ Cs.bad d n (filledB x) := by
      have := h.dv.pages
      rintro (q | q | q)
      · omega
      · omega
      · exact q hpl
    have hE : c.putE d n (filledB x) = if c.hit n then 0 else c.roomE d := by
      have := h.dv.pages
      unfold Cs.putE
      rw [if_neg (by omega), if_neg (fun q => q hpl)]
    have hst : ∀ {m : Int}, 0 ≤ m → m < 8 → isAt (is.set n.toNat x) m = if m = n then x else isAt is m := fun a b => isAt_set h.isl hr.1 hr.2 a b
    have hisn : isAt (is.set n.toNat x) n = x := by rw [hst hr.1 hr.2, if_pos rfl]
    have hism : ∀ m, 0 ≤ m → m < 8 → m ≠ n → isAt (is.set n.toNat x) m = isAt is m := fun m m0 m1 e => by rw [hst m0 m1, if_neg e]
    have hsl : (is.set n.toNat x).length = 8 := by rw [List.length_set]; exact h.isl
    by_cases hj : c.hit n
    · have e1 : c.putC d n (filledB x) = c.hitP n (filledB x) := by unfold Cs.putC; rw [if_neg hbad, if_pos hj]
      have e2 : c.putD d n (filledB x) = d := if_pos (.inr hj)
      have hn : (c.at' (c.idx n : Nat)).n = n := Cs.idx_n hj
      have hat := at_mem hj
      have hgm : ∀ {f}, f ∈ (c.gone (c.idx n : Nat)).fr ↔ f ∈ c.fr ∧ f.n ≠ (c.at' (c.idx n : Nat)).n := by intro f; exact gone_mem h.good.nod hj
      have hdn := dN_gone hj
      have hdn2 : dN (c.hitP n (filledB x)) = dN (c.gone (c.idx n : Nat)) + 1 := dN_add
      have hgl : (c.gone (c.idx n : Nat)).fr.length + 1 = c.fr.length := by
        show (c.fr.take (c.idx n) ++ c.fr.drop (c.idx n + 1)).length + 1 = _
        have : c.idx n < c.fr.length := hj
        rw [List.length_append, List.length_take, List.length_drop]; omega
      have hlen := h.good.len
      have hgood : GoodC (c.hitP n (filledB x)) := (h.good.gone _).addF (show ((c.gone (c.idx n : Nat)).fr.length : Int) < c.frames by omega) (fun y hy => (hgm.1 hy).2) (show 0 ≤ (c.at' (c.idx n : Nat)).pins from h.good.pins _ hat) (by show (filledB x).length ≤ _; rw [hl]; decide)
      rw [hE, if_pos hj, e1, e2]
      obtain ⟨k1, k2, k3, k4, k5, k6, k7⟩ := k
      refine ⟨⟨by show c.hits ≤ _; omega, by show c.misses ≤ _; omega, by show c.evic ≤ _; omega, by omega, by omega, by omega, fun f hf => ?_⟩, .inl ⟨rfl, hr.1, hr.2, ?_⟩⟩
      · rcases add_mem.1 (show f ∈ ((c.gone (c.idx n : Nat)).add _).fr from hf) with e | e
        · rw [e]; have := k7 _ hat; show (c.at' (c.idx n : Nat)).pins ≤ _; omega
        · have := k7 f (hgm.1 e).1; omega
      · refine h.repl hj hgood (g := { c.at' (c.idx n : Nat) with b := filledB x, dirty := true }) (fun f => add_mem) rfl h.dv (fun _ _ _ _ => rfl) hsl h.pinl (fun m m0 m1 e => hism m m0 m1 (by rw [← hn]; exact e)) ?_ (fun _ _ _ _ => rfl) ?_ (fun q => by cases q) (show isAt pins (c.at' (c.idx n : Nat)).n = (c.at' (c.idx n : Nat)).pins from h.pin _ hat)
        · show 0 ≤ isAt _ (c.at' (c.idx n : Nat)).n ∧ isAt _ (c.at' (c.idx n : Nat)).n < 256
          rw [hn, hisn]; exact ⟨x0, x1⟩
        · show filledB x = filledB (isAt _ (c.at' (c.idx n : Nat)).n)
          rw [hn, hisn]
    · have hno := no_n hj
      have e2 : c.putD d n (filledB x) = c.roomD d := if_neg (by rintro (q | q); exact hbad q; exact hj q)
      rw [hE, if_neg hj, e2]
      rcases tell_room h k with ⟨t1, t2, t3, t4, t5⟩ | ⟨t1, t2, t3, t4⟩
      · have e1 : c.putC d n (filledB x) = (c.roomC d).add ⟨n, filledB x, true, 0⟩ := by unfold Cs.putC; rw [if_neg hbad, if_neg hj, if_neg (fun q => q t1)]
        have hgood : GoodC ((c.roomC d).add ⟨n, filledB x, true, 0⟩) := t2.good.addF t4 (fun y hy => hno y (t5 y hy)) (Int.le_refl _) (by show (filledB x).length ≤ _; rw [hl]; decide)
        have hdn2 : dN ((c.roomC d).add ⟨n, filledB x, true, 0⟩) = dN (c.roomC d) + 1 := dN_add
        obtain ⟨k1, k2, k3, k4, k5, k6, k7⟩ := t3
        rw [e1]
        refine ⟨⟨by show (c.roomC d).hits ≤ _; omega, by show (c.roomC d).misses ≤ _; omega, by show (c.roomC d).evic ≤ _; omega, by omega, by omega, by omega, fun f hf => ?_⟩, .inl ⟨t1, hr.1, hr.2, ?_⟩⟩
        · rcases add_mem.1 hf with e | e
          · rw [e]; show (0 : Int) ≤ _; have := h.good.cnt; have := k.h; omega
          · have := k7 f e; omega
        · exact t2.come hgood (fun f => add_mem) (fun f hf => hno f (t5 f hf)) hr.1 hr.2 t2.dv (fun _ _ _ => rfl) hsl hism (by show 0 ≤ isAt _ n ∧ isAt _ n < 256; rw [hisn]; exact ⟨x0, x1⟩) (by show filledB x = filledB (isAt _ n); rw [hisn]) (fun q => by cases q) rfl
      · have e1 : c.putC d n (filledB x) = c := by unfold Cs.putC; rw [if_neg hbad, if_neg hj, if_pos (by rw [t1]; decide), t2]
        rw [e1, t3]
        exact ⟨k.mono (by omega) (by omega), .inr (.inl ⟨t1, t4, rfl, h⟩)⟩
  · have hbad : Cs.bad d n (filledB x) := by
      have := h.dv.pages
      by_cases q : n < 0
      · exact .inl q
      · exact .inr (.inl (by omega))
    have e1 : c.putC d n (filledB x) = c := if_pos hbad
    have e2 : c.putD d n (filledB x) = d := if_pos (.inl hbad)
    have e3 : c.putE d n (filledB x) = 30 := by have := h.dv.pages; exact if_pos (by omega)
    rw [e1, e2, e3]
    exact ⟨k.mono (by omega) (by omega), .inr (.inr ⟨rfl, hr, h⟩)⟩
theorem tell_pinAt (h : Tell c d is pins) {j : Nat} (hj : j < c.fr.length) {q : Int} (hq : 0 ≤ (c.at' (j : Nat)).pins + q) :
    Tell (c.pinAt (j : Nat) q) d is (pins.set (c.at' (j : Nat)).n.toNat (isAt pins (c.at' (j : Nat)).n + q)) := by
  have hat := at_mem hj
  have hrn := h.rng _ hat
  have hst : ∀ {m : Int}, 0 ≤ m → m < 8 → isAt (pins.set (c.at' (j : Nat)).n.toNat (isAt pins (c.at' (j : Nat)).n + q)) m = if m = (c.at' (j : Nat)).n then isAt pins (c.at' (j : Nat)).n + q else isAt pins m := fun a b => isAt_set h.pinl hrn.1 hrn.2 a b
  refine h.repl hj (g := { c.at' (j : Nat) with pins := (c.at' (j : Nat)).pins + q }) (c' := c.pinAt (j : Nat) q) (h.good.put hj rfl hq (show (c.at' (j : Nat)).b.length ≤ 65536 from h.good.b _ hat)) (fun f => put_mem) rfl h.dv (fun _ _ _ _ => rfl) h.isl (by rw [List.length_set]; exact h.pinl) (fun _ _ _ _ => rfl) (h.isr _ hrn.1 hrn.2) (fun m m0 m1 e => by rw [hst m0 m1, if_neg e]) (show (c.at' (j : Nat)).b = filledB (isAt is (c.at' (j : Nat)).n) from h.fb _ hat) (fun hd => ?_) ?_
  · exact h.dev _ hrn.1 hrn.2 fun f hf e => by rw [same_f h.good hj hf e]; exact hd
  · show isAt _ (c.at' (j : Nat)).n = (c.at' (j : Nat)).pins + q
    rw [hst hrn.1 hrn.2, if_pos rfl, h.pin _ hat]
theorem cnt_pinAt (k : Cnt c d i i) {j : Nat} (hj : j < c.fr.length) (hg : GoodC c) {q l : Int} (hl : i ≤ l) (hq : (c.at' (j : Nat)).pins + q ≤ l) : Cnt (c.pinAt (j : Nat) q) d l l := by
  have a : dN (c.pinAt (j : Nat) q) = dN (c.gone (j : Nat)) + (c.at' (j : Nat)).dirty.toNat := dN_put
  have b := dN_gone hj
  obtain ⟨k1, k2, k3, k4, k5, k6, k7⟩ := k
  refine ⟨by show c.hits ≤ _; omega, by show c.misses ≤ _; omega, by show c.evic ≤ _; omega, by omega, by omega, by omega, fun f hf => ?_⟩
  rcases put_mem.1 hf with e | e
  · rw [e]; exact hq
  · have := k7 f ((gone_mem hg.nod hj).1 e).1; omega
theorem tell_pin (h : Tell c d is pins) (k : Cnt c d i i) (n : Int) :
    Cnt (c.pinC d n) (c.holdD d n) (i + 1) (i + 1) ∧
      (c.holdE d n = 0 ∧ 0 ≤ n ∧ n < 8 ∧ Tell (c.pinC d n) (c.holdD d n) is (pins.set n.toNat (isAt pins n + 1)) ∨
       c.holdE d n = 40 ∧ c.stuck ∧ c.pinC d n = c ∧ Tell (c.pinC d n) (c.holdD d n) is pins ∨ c.holdE d n = 30 ∧ ¬ (0 ≤ n ∧ n < 8) ∧ Tell (c.pinC d n) (c.holdD d n) is pins) := by
  obtain ⟨t1, t2, t3⟩ := tell_hold h k n
  rcases t3 with ⟨e, n0, n1, en⟩ | ⟨e, hs, ec⟩ | ⟨e, hr⟩
  · have hp := hold_pos e
    have hidx : (((c.holdC d n).fr.length : Nat) : Int) + -1 = (((c.holdC d n).fr.length - 1 : Nat) : Int) := by omega
    have e1 : c.pinC d n = (c.holdC d n).pinAt (((c.holdC d n).fr.length - 1 : Nat) : Int) 1 := by unfold Cs.pinC; rw [if_pos e, hidx]
    have hj : (c.holdC d n).fr.length - 1 < (c.holdC d n).fr.length := by omega
    have en : ((c.holdC d n).at' (((c.holdC d n).fr.length - 1 : Nat) : Int)).n = n := by rw [← hidx]; exact en
    have hat := at_mem hj
    have hpn := t1.good.pins _ hat
    have hpl : ((c.holdC d n).at' (((c.holdC d n).fr.length - 1 : Nat) : Int)).pins ≤ i := by
      rcases hold_pins _ hat with q | q
      · rw [q]; have := h.good.cnt; have := k.h; omega
      · exact k.p _ q
    rw [e1]
    have hT := tell_pinAt t1 hj (q := 1) (by omega)
    rw [en] at hT
    exact ⟨cnt_pinAt t2 hj t1.good (Int.le_refl _) (by omega), .inl ⟨e, n0, n1, hT⟩⟩
  · have e1 : c.pinC d n = c.holdC d n := if_neg (by rw [e]; decide)
    rw [e1]
    exact ⟨t2, .inr (.inl ⟨e, hs, ec, t1⟩)⟩
  · have e1 : c.pinC d n = c.holdC d n := if_neg (by rw [e]; decide)
    rw [e1]
    exact ⟨t2, .inr (.inr ⟨e, hr, t1⟩)⟩
theorem tell_unp (h : Tell c d is pins) (k : Cnt c d i i) (n : Int) :
    Cnt (c.unpC n) d (i + 1) (i + 1) ∧
      (c.unpE n = 0 ∧ 0 ≤ n ∧ n < 8 ∧ 0 < isAt pins n ∧ Tell (c.unpC n) d is (pins.set n.toNat (isAt pins n + -1)) ∨
       c.unpE n = 41 ∧ (0 ≤ n → n < 8 → isAt pins n = 0) ∧ Tell (c.unpC n) d is pins) := by
  by_cases hc : c.hit n ∧ (c.at' (c.idx n : Nat)).pins ≠ 0
  · obtain ⟨hj, hp⟩ := hc
    have hn : (c.at' (c.idx n : Nat)).n = n := Cs.idx_n hj
    have hr := hit_rng h hj
    have hat := at_mem hj
    have hpn := h.good.pins _ hat
    have hpp := h.pin _ hat
    rw [hn] at hpp
    have e1 : c.unpC n = c.pinAt (c.idx n : Nat) (-1) := if_pos ⟨hj, hp⟩
    have e2 : c.unpE n = 0 := if_pos ⟨hj, hp⟩
    rw [e1, e2]
    have hT := tell_pinAt h hj (q := -1) (by omega)
    rw [hn] at hT
    exact ⟨cnt_pinAt k hj h.good (by omega) (by have := k.p _ hat; omega), .inl ⟨rfl, hr.1, hr.2, by omega, hT⟩⟩
  · have e1 : c.unpC n = c := if_neg hc
    have e2 : c.unpE n = 41 := if_neg hc
    rw [e1, e2]
    refine ⟨k.mono (by omega) (by omega), .inr ⟨rfl, fun n0 n1 => ?_, h⟩⟩
    by_cases hj : c.hit n
    · have hp : (c.at' (c.idx n : Nat)).pins = 0 := Classical.byContradiction fun q => hc ⟨hj, q⟩
      have := h.pin _ (at_mem hj)
      have hn : (c.at' (c.idx n : Nat)).n = n := Cs.idx_n hj
      rw [hn, hp] at this; exact this
    · exact h.unp n n0 n1 (no_n hj)
theorem tell_fl : ∀ (l : List Int) (c : Cs) (d : Dv), Tell c d is pins → Cnt c d i i → (flS l c d).2.2 = 0 ∧ Tell (flS l c d).1 (flS l c d).2.1 is pins ∧ Cnt (flS l c d).1 (flS l c d).2.1 i i ∧
    (∀ f ∈ (flS l c d).1.fr, f.dirty = true → ¬ f.n ∈ l ∧ ∃ g ∈ c.fr, g.n = f.n ∧ g.dirty = true)
  | [], c, d, h, k => ⟨rfl, h, k, fun f hf hd => ⟨fun q => (nomatch q), f, hf, rfl, hd⟩⟩
  | n :: l, c, d, h, k => by
    rw [flS_cons]
    cases hd : (c.at' (c.idx n : Nat)).dirty
    · rw [cond_false]
      obtain ⟨a1, a2, a3, a4⟩ := tell_fl l c d h k
      refine ⟨a1, a2, a3, fun f hf hfd => ?_⟩
      obtain ⟨b1, g, b2, b3, b4⟩ := a4 f hf hfd
      refine ⟨fun q => ?_, g, b2, b3, b4⟩
      rcases List.mem_cons.1 q with q | q
      · have hj : c.idx n < c.fr.length := hit_mem (List.mem_map.2 ⟨g, b2, b3.trans q⟩)
        have := same_f h.good hj b2 ((b3.trans q).trans (Cs.idx_n hj).symm)
        rw [this, hd] at b4; cases b4
      · exact b1 q
    · rw [cond_true]
      have hj := dirty_in hd
      have hat := at_mem hj
      have hrn := h.rng _ hat
      have hn : (c.at' (c.idx n : Nat)).n = n := Cs.idx_n hj
      have hfb := h.fb _ hat
      rw [hn] at hrn hfb
      have hbl : (c.at' (c.idx n : Nat)).b.length = 512 := by rw [hfb]; exact filled_len (h.isr _ hrn.1 hrn.2).1
      obtain ⟨w1, w2, w3, w4, w5, w6, w7⟩ := wr_ok h.dv hrn.1 hrn.2 hbl
      rw [if_pos w1]
      have hT : Tell (c.clean (c.idx n : Nat)) (d.wrD n (c.at' (c.idx n : Nat)).b) is pins := by
        refine h.repl hj ((KeepC.clean hj).good h.good) (fun f => put_mem) rfl w2 (fun m _ _ e => w4 m (by rw [← hn]; exact e)) h.isl h.pinl (fun _ _ _ _ => rfl) (h.isr _ (by show 0 ≤ (c.at' (c.idx n : Nat)).n; rw [hn]; exact hrn.1) (by show (c.at' (c.idx n : Nat)).n < 8; rw [hn]; exact hrn.2)) (fun _ _ _ _ => rfl) (show (c.at' (c.idx n : Nat)).b = filledB (isAt is (c.at' (c.idx n : Nat)).n) from h.fb _ hat) (fun _ => ?_) (show isAt pins (c.at' (c.idx n : Nat)).n = (c.at' (c.idx n : Nat)).pins from h.pin _ hat)
        show (d.wrD n _).read (c.at' (c.idx n : Nat)).n = filledB (isAt is (c.at' (c.idx n : Nat)).n)
        rw [hn, w3, hfb]
      have hK : Cnt (c.clean (c.idx n : Nat)) (d.wrD n (c.at' (c.idx n : Nat)).b) i i := by
        have a : dN (c.clean (c.idx n : Nat)) = dN (c.gone (c.idx n : Nat)) + false.toNat := dN_put
        have b := dN_gone hj
        rw [hd] at b
        have a : dN (c.clean (c.idx n : Nat)) = dN (c.gone (c.idx n : Nat)) + 0 := a
        have b : dN (c.gone (c.idx n : Nat)) + 1 = dN c := b
        obtain ⟨k1, k2, k3, k4, k5, k6, k7⟩ := k
        refine ⟨k1, k2, k3, by omega, by omega, by omega, fun f hf => ?_⟩
        rcases put_mem.1 hf with e | e
        · rw [e]; show (c.at' (c.idx n : Nat)).pins ≤ i; exact k7 _ hat
        · exact k7 f ((gone_mem h.good.nod hj).1 e).1
      obtain ⟨a1, a2, a3, a4⟩ := tell_fl l _ _ hT hK
      refine ⟨a1, a2, a3, fun f hf hfd => ?_⟩
      obtain ⟨b1, g, b2, b3, b4⟩ := a4 f hf hfd
      rcases put_mem.1 b2 with e | e
      · rw [e] at b4; cases b4
      · obtain ⟨e1, e2⟩ := (gone_mem h.good.nod hj).1 e
        refine ⟨fun q => ?_, g, e1, b3, b4⟩
        rcases List.mem_cons.1 q with q | q
        · exact e2 ((b3.trans q).trans hn.symm)
        · exact b1 q
/-- Behind a Flush the device tells all. -/
theorem tell_flush (h : Tell c d is pins) (k : Cnt c d i i) : (flS c.keys c d).2.2 = 0 ∧ Tell (flS c.keys c d).1 (flS c.keys c d).2.1 is pins ∧ Cnt (flS c.keys c d).1 (flS c.keys c d).2.1 i i ∧
    ∀ n, 0 ≤ n → n < 8 → (flS c.keys c d).2.1.read n = filledB (isAt is n) := by
  obtain ⟨a1, a2, a3, a4⟩ := tell_fl c.keys c d h k
  refine ⟨a1, a2, a3, fun n n0 n1 => a2.dev n n0 n1 fun f hf e => ?_⟩
  cases hd : f.dirty
  · rfl
  · obtain ⟨b1, g, b2, b3, _⟩ := a4 f hf hd
    exact absurd (sortK_mem.2 (List.mem_map.2 ⟨g, b2, b3⟩)) b1
theorem tell_img (h : DvOk d) {n : Int} (n0 : 0 ≤ n) (n1 : n < 8) {x : Int} (hr : d.read n = filledB x) (x0 : 0 ≤ x) (x1 : x < 256) : d.image.length = 4096 ∧ ((d.image.getD (n * 512).toNat 0).toNat : Int) = x := by
  have hl := image_len h.gd
  have hb := (rd_big h.gd).2.2.2.2.1
  rw [h.pages, h.page] at hb
  have hp := image_pg h.gd n0 (by rw [h.pages]; exact n1)
  rw [hr, h.page] at hp
  refine ⟨by omega, ?_⟩
  have h0 : (pgOf 512 d.image n).getD 0 0 = d.image.getD (n * 512).toNat 0 := by
    unfold pgOf
    rw [List.getD_eq_getElem?_getD, List.getD_eq_getElem?_getD, List.getElem?_take_of_lt (by decide), List.getElem?_drop, Nat.add_zero]
  rw [← h0, hp, filled_at x0 x1 (by decide)]
  omega
end
end
end Go.Proofs.Ytlcfjjjdhdfbdaa

/- CacheTells, in plain words: how many pages are pinned; the words of the law. -/
set_option linter.unusedSimpArgs false
set_option linter.unusedVariables false
namespace Go.Proofs.Ytlcfjjjdhdfbdaa
noncomputable section
open Go.Eng
def cntK (pins : List Int) (k : Int) : Nat := ((List.range k.toNat).filter fun j => decide (0 < pins.getD j 0)).length
theorem cntK_step {pins : List Int} {k : Int} (h : 0 ≤ k) : cntK pins (k + 1) = cntK pins k + (if 0 < isAt pins k then 1 else 0) := by
  unfold cntK isAt
  rw [show (k + 1).toNat = k.toNat + 1 by omega, List.range_succ, List.filter_append, List.length_append]
  congr 1
  by_cases q : 0 < pins.getD k.toNat 0
  · rw [if_pos q, List.filter_cons, if_pos (decide_eq_true q)]; rfl
  · rw [if_neg q, List.filter_cons, if_neg (by rw [decide_eq_true_eq]; exact q)]; rfl
theorem cntK_le (pins : List Int) (k : Int) : cntK pins k ≤ k.toNat := by
  unfold cntK
  have := List.length_filter_le (fun j => decide (0 < pins.getD j 0)) (List.range k.toNat)
  rwa [List.length_range] at this
section
variable {c : Cs} {d : Dv} {is pins : List Int}
theorem tell_held (h : Tell c d is pins) : cntK pins 8 = c.pinN [] := by
  have hf : (c.fr.filter fun f => decide (0 < f.pins) && !mhas [] f.n) = c.fr.filter fun f => decide (0 < f.pins) := by
    refine List.filter_congr fun f _ => ?_
    show (decide (0 < f.pins) && !false) = _
    rw [Bool.not_false, Bool.and_true]
  unfold Cs.pinN
  rw [hf]
  have hp : ((c.fr.filter fun f => decide (0 < f.pins)).map fun f => f.n).Perm (((List.range 8).filter fun j => decide (0 < pins.getD j 0)).map fun j : Nat => (j : Int)) := by
    refine (List.perm_ext_iff_of_nodup ?_ ?_).2 fun x => ?_
    · exact (List.Sublist.map _ List.filter_sublist).nodup h.good.nod
    · refine List.pairwise_map.2 (List.Pairwise.imp (fun {a b : Nat} (q : a ≠ b) (e : (a : Int) = (b : Int)) => q (by omega)) (List.filter_sublist.nodup List.nodup_range))
    · rw [List.mem_map, List.mem_map]
      constructor
      · rintro ⟨f, hf, rfl⟩
        obtain ⟨h1, h2⟩ := List.mem_filter.1 hf
        have hr := h.rng f h1
        have hq := h.pin f h1
        rw [decide_eq_true_eq] at h2
        refine ⟨f.n.toNat, List.mem_filter.2 ⟨List.mem_range.2 (by omega), ?_⟩, by omega⟩
        rw [decide_eq_true_eq]
        have hq : pins.getD f.n.toNat 0 = f.pins := hq
        rw [hq]; exact h2
      · rintro ⟨j, hj, rfl⟩
        obtain ⟨h1, h2⟩ := List.mem_filter.1 hj
        rw [List.mem_range] at h1
        rw [decide_eq_true_eq] at h2
        have hj2 : isAt pins (j : Int) = pins.getD j 0 := by unfold isAt; rw [Int.toNat_natCast]
        by_cases q : ∃ f ∈ c.fr, f.n = (j : Int)
        · obtain ⟨f, f1, f2⟩ := q
          have hq := h.pin f f1
          rw [f2, hj2] at hq
          exact ⟨f, List.mem_filter.2 ⟨f1, by rw [decide_eq_true_eq, ← hq]; exact h2⟩, f2⟩
        · have := h.unp (j : Int) (by omega) (by omega) fun f f1 f2 => q ⟨f, f1, f2⟩
          rw [hj2] at this; omega
  have := hp.length_eq
  rw [List.length_map, List.length_map] at this
  exact this.symm
theorem stuck_held (h : Tell c d is pins) (hs : c.stuck) : c.frames ≤ (cntK pins 8 : Int) := by
  rw [tell_held h]
  have hall : (c.fr.filter fun f => decide (0 < f.pins) && !mhas [] f.n) = c.fr := by
    rw [List.filter_eq_self]
    intro f hf
    have h1 := old_none hs.2 f hf
    have h2 := h.good.pins f hf
    show (decide (0 < f.pins) && !false) = true
    rw [Bool.not_false, Bool.and_true, decide_eq_true_eq]; omega
  unfold Cs.pinN
  rw [hall]
  exact hs.1
theorem pinN_le (c : Cs) (m : List (Int × Int)) : c.pinN m ≤ c.fr.length := List.length_filter_le _ _
theorem dirN_le (c : Cs) (m : List (Int × Int)) : c.dirN m ≤ c.fr.length := List.length_filter_le _ _
end
/-- What a step may answer. -/
def ansOk (c : Cs) (e b : Int) : Prop := e = 0 ∨ e = 30 ∧ b = 0 ∨ e = 40 ∧ c.stuck
structure TlSig (S : Sig GG) : Prop where
  cs : CsSig S
  u320 : ∀ a b c d, S.usr 320 a b c d = .bool (propB (Tell (csOf a) (dvOf b) c.toInts d.toInts))
  u321 : ∀ a b c d, S.usr 321 a b c d = .bool (propB (Cnt (csOf a) (dvOf b) c.toInt c.toInt))
  u322 : ∀ a b c d, S.usr 322 a b c d = .int (cntK a.toInts b.toInt : Nat)
  u323 : ∀ a b c d, S.usr 323 a b c d = .bool (propB (ansOk (csOf a) b.toInt c.toInt))
theorem tell_new {f : Int} (h1 : 1 ≤ f) (h2 : f ≤ 4096) : Tell (csNew f) (dvNew 8) (List.replicate 8 0) (List.replicate 8 0) where
  good := csNew_good h1 h2
  dv := ⟨dvNew_good (by decide) (by decide), rfl, rfl, rfl, dvNew_pages (by decide), rfl⟩
  isl := rfl
  pinl := rfl
  isr n n0 n1 := by
    have e : isAt (List.replicate 8 0) n = 0 := by unfold isAt; rw [List.getD_eq_getElem?_getD, List.getElem?_replicate]; split <;> rfl
    rw [e]; decide
  rng f hf := nomatch hf
  fb f hf := nomatch hf
  dev n n0 n1 _ := by
    have e : isAt (List.replicate 8 0) n = 0 := by unfold isAt; rw [List.getD_eq_getElem?_getD, List.getElem?_replicate]; split <;> rfl
    rw [e]
    show (dvNew 8).place n = filledB 0
    unfold Dv.place filledB
    rw [if_neg (by decide)]
    show ((List.replicate (512 * 8) (0 : UInt8)).drop (n * 512).toNat).take 512 = List.replicate 512 (UInt8.ofNat 0)
    rw [List.drop_replicate, List.take_replicate, show min 512 (512 * 8 - (n * 512).toNat) = 512 by omega]; rfl
  pin f hf := nomatch hf
  unp n n0 n1 _ := by unfold isAt; rw [List.getD_eq_getElem?_getD, List.getElem?_replicate]; split <;> rfl
theorem cnt_new (f : Int) : Cnt (csNew f) (dvNew 8) 0 0 := ⟨Int.le_refl _, Int.le_refl _, Int.le_refl _, Int.le_refl _, Int.le_refl _, Int.le_refl _, fun f hf => nomatch hf⟩
end
end Go.Proofs.Ytlcfjjjdhdfbdaa
