/- Contracts of single functions: sides, keys, colours, boxes of tiles; conditions: none. -/
import Derived.Test.YtojhoeogikdjoaaGreatDoorF1
import Derived.Test.YtojhoeogikdjoaaGreatDoorEvTypes2
set_option linter.unusedSimpArgs false
set_option linter.unusedVariables false
set_option maxRecDepth 10000
namespace Go.Ev
open Go.Proofs Go.RowKit

theorem Scale_q (x y : Int) : Cq Tryz.prog 54 [ip x, ip y] (vMx ⟨x, 0, 0, y, 0, 0⟩) := by
  refine cq_of_ev TT_ok mix Tryz.func54 (by kernel_rfl) rfl fun w => ?_
  repeat' ((conv => whnf); first | refine And.intro ?_ ?_ | intro _ | refine ret_q ?_ | exact RegOK.mk (by kernel_rfl) | fail)
  all_goals rfl
def sideB (n : Int) : Bool := decide (n ≥ 1) && decide (n ≤ 256)
theorem side_q (n : Int) : Cq Tryz.prog 199 [ip n] (.bool (sideB n)) := by
  refine cq_of_ev TT_ok mix Tryz.func199 (by kernel_rfl) rfl fun w => ?_
  repeat' ((conv => whnf); first | refine And.intro ?_ ?_ | intro _ | refine ret_q ?_ | exact RegOK.mk (by kernel_rfl) | fail)
  all_goals first | (simp_all [sideB]; done) | (simp_all [sideB] <;> omega)
structure Ky where
  x : Int
  y : Int
deriving DecidableEq
abbrev vKy (p : Ky) : Value := .agg #[ip p.x, ip p.y]
def Ky.right (k : Ky) : Bool := decide (mn k.x k.y ≥ -524288) && decide (mx k.x k.y < 524288)
theorem Kright_q (x y : Int) : Cq Tryz.prog 149 [.agg #[ip x, ip y]] (.bool (Ky.mk x y).right) := by
  refine cq_of_ev TT_ok mix Tryz.func149 (by kernel_rfl) rfl fun w => ?_
  repeat' ((conv => whnf); first | refine And.intro ?_ ?_ | intro _ | refine ret_q ?_ | exact RegOK.mk (by kernel_rfl) | fail)
  all_goals first | (simp_all [Ky.right, mn, mx]; done) | (simp_all [Ky.right, mn, mx] <;> omega)
def szOK (b : Bx) : Bool := !b.empty && !decide (mn b.x0 b.y0 < -4194304) && !decide (mx b.x1 b.y1 > 4194304) && !decide (W (b.x1 - b.x0) > 256) && !decide (W (b.y1 - b.y0) > 256)
def szW (b : Bx) : Int := if szOK b then W (b.x1 - b.x0) else 0
def szH (b : Bx) : Int := if szOK b then W (b.y1 - b.y0) else 0
theorem Size_q (a b c d : Int) : Cq Tryz.prog 145 [.agg #[ip a, ip b, ip c, ip d]] (.tuple #[ip (szW ⟨a, b, c, d⟩), ip (szH ⟨a, b, c, d⟩), .bool (szOK ⟨a, b, c, d⟩)]) := by
  refine cq_of_ev TT_ok mix Tryz.func145 (by kernel_rfl) rfl fun w => ?_
  repeat' ((conv => whnf); first | refine And.intro ?_ ?_ | intro _ | refine ret_q ?_ | exact RegOK.mk (by kernel_rfl) | refine call_q (Empty_q _ _ _ _) ?_ | fail)
  all_goals (simp_all [szW, szH, szOK, mx, mn]; done)
def sl (x n : Int) : Int := W (x * 2 ^ min n.toNat IntKind.i64.bits)
def tBox (k : Ky) : Bx := if k.right then ⟨sl k.x 3, sl k.y 3, W (sl k.x 3 + 8), W (sl k.y 3 + 8)⟩ else ⟨0, 0, 0, 0⟩
theorem tBox_q (x y : Int) : Cq Tryz.prog 108 [.agg #[ip x, ip y]] (vBx (tBox ⟨x, y⟩)) := by
  refine cq_of_ev TT_ok mix Tryz.func108 (by kernel_rfl) rfl fun w => ?_
  repeat' ((conv => whnf); first | refine And.intro ?_ ?_ | intro _ | refine ret_q ?_ | exact RegOK.mk (by kernel_rfl) | refine call_q (Kright_q _ _) ?_ | fail)
  all_goals first | decide | (simp_all [tBox, sl]; done)
abbrev u8 (x : Int) : Value := .int .u8 x
structure Co where
  r : Int
  g : Int
  b : Int
  a : Int
deriving DecidableEq
abbrev vCo (c : Co) : Value := .agg #[u8 c.r, u8 c.g, u8 c.b, u8 c.a]
def Co.right (c : Co) : Bool := decide (mx (mx c.r c.g) c.b ≤ c.a)
theorem Cright_q (r g b a : Int) : Cq Tryz.prog 166 [.agg #[u8 r, u8 g, u8 b, u8 a]] (.bool (Co.mk r g b a).right) := by
  refine cq_of_ev TT_ok mix Tryz.func166 (by kernel_rfl) rfl fun w => ?_
  repeat' ((conv => whnf); first | refine And.intro ?_ ?_ | intro _ | refine ret_q ?_ | exact RegOK.mk (by kernel_rfl) | fail)
  all_goals first | decide | (simp_all [Co.right, mx]; done)
theorem Check1_q (r g b a : Int) : Cq Tryz.prog 198 [.agg #[u8 r, u8 g, u8 b, u8 a]] (.bool (!(Co.mk r g b a).right)) := by
  refine cq_of_ev TT_ok mix Tryz.func198 (by kernel_rfl) rfl fun w => ?_
  repeat' ((conv => whnf); first | refine And.intro ?_ ?_ | intro _ | refine ret_q ?_ | exact RegOK.mk (by kernel_rfl) | refine call_q (Cright_q _ _ _ _) ?_ | fail)
  all_goals (simp_all; done)
theorem IBox_q (w h : Int) (s : Option Addr) (n c : Nat) : Cq Tryz.prog 201 [.agg #[ip w, ip h, .slice s n c]] (vBx ⟨0, 0, w, h⟩) := by
  refine cq_of_ev TT_ok mix Tryz.func201 (by kernel_rfl) rfl fun w => ?_
  repeat' ((conv => whnf); first | refine And.intro ?_ ?_ | intro _ | refine ret_q ?_ | exact RegOK.mk (by kernel_rfl) | fail)
  all_goals rfl
end Go.Ev

