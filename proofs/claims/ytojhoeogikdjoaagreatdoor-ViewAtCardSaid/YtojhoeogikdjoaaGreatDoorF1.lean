/- Contracts of single functions: numbers, points, boxes, matrices; conditions: none. -/
import Derived.Test.YtojhoeogikdjoaaGreatDoorEvTypes
import Derived.Test.YtojhoeogikdjoaaGreatDoorEvMaps
set_option linter.unusedSimpArgs false
set_option linter.unusedVariables false
set_option maxRecDepth 10000
namespace Go.Ev
open Go.Proofs Go.RowKit
abbrev ip (x : Int) : Value := .int .i64 x
abbrev W (x : Int) : Int := IntKind.i64.wrap x
abbrev sr (x n : Int) : Int := x.fdiv (2 ^ min n.toNat IntKind.i64.bits)

def inB (a : Int) : Bool := decide (-2147483648 ≤ a) && decide (a ≤ 2147483648)
theorem In_q (a : Int) : Cq Tryz.prog 80 [ip a] (.bool (inB a)) := by
  refine cq_of_ev TT_ok mix Tryz.func80 (by kernel_rfl) rfl fun w => ?_
  repeat' ((conv => whnf); first | refine And.intro ?_ ?_ | intro _ | refine ret_q ?_ | exact RegOK.mk (by kernel_rfl) | fail)
  all_goals first | (simp_all [inB]; done) | (simp_all [inB] <;> omega)
structure Pt where
  x : Int
  y : Int
deriving DecidableEq
abbrev vPt (p : Pt) : Value := .agg #[ip p.x, ip p.y]
def Pt.inB (p : Pt) : Bool := Ev.inB p.x && Ev.inB p.y
theorem PIn_q (x y : Int) : Cq Tryz.prog 44 [.agg #[ip x, ip y]] (.bool (Pt.mk x y).inB) := by
  refine cq_of_ev TT_ok mix Tryz.func44 (by kernel_rfl) rfl fun w => ?_
  repeat' ((conv => whnf); first | refine And.intro ?_ ?_ | intro _ | refine ret_q ?_ | exact RegOK.mk (by kernel_rfl) | refine call_q (In_q _) ?_ | fail)
  all_goals (simp_all [Pt.inB]; done)
structure Mx where
  a : Int
  b : Int
  c : Int
  d : Int
  e : Int
  f : Int
deriving DecidableEq
abbrev vMx (m : Mx) : Value := .agg #[ip m.a, ip m.b, ip m.c, ip m.d, ip m.e, ip m.f]
def entB (a : Int) : Bool := !decide (a < -16777216) && !decide (a > 16777216)
def Mx.right (m : Mx) : Bool := entB m.a && entB m.b && entB m.c && entB m.d && Ev.inB m.e && Ev.inB m.f
theorem Right_q (a b c d e f : Int) : Cq Tryz.prog 49 [.agg #[ip a, ip b, ip c, ip d, ip e, ip f]] (.bool (Mx.mk a b c d e f).right) := by
  refine cq_of_ev TT_ok mix Tryz.func49 (by kernel_rfl) rfl fun w => ?_
  repeat' ((conv => whnf); first | refine And.intro ?_ ?_ | intro _ | refine ret_q ?_ | exact RegOK.mk (by kernel_rfl) | fail)
  refine loop_rounds TT_ok mix 5 ?_
  repeat' ((conv => whnf); first | refine And.intro ?_ ?_ | intro _ | refine ret_q ?_ | exact RegOK.mk (by kernel_rfl) | (exfalso; revert ‹decide _ = _›; decide) | refine call_q (In_q _) ?_ | fail)
  all_goals first
    | decide
    | (simp_all [Mx.right, entB]; done)
structure Bx where
  x0 : Int
  y0 : Int
  x1 : Int
  y1 : Int
deriving DecidableEq
abbrev vBx (b : Bx) : Value := .agg #[ip b.x0, ip b.y0, ip b.x1, ip b.y1]
def Bx.empty (b : Bx) : Bool := decide (b.x0 ≥ b.x1) || decide (b.y0 ≥ b.y1)
theorem Empty_q (a b c d : Int) : Cq Tryz.prog 53 [.agg #[ip a, ip b, ip c, ip d]] (.bool (Bx.mk a b c d).empty) := by
  refine cq_of_ev TT_ok mix Tryz.func53 (by kernel_rfl) rfl fun w => ?_
  repeat' ((conv => whnf); first | refine And.intro ?_ ?_ | intro _ | refine ret_q ?_ | exact RegOK.mk (by kernel_rfl) | fail)
  all_goals first | (simp_all [Bx.empty]; done) | (simp_all [Bx.empty] <;> omega)
def Bx.has (b : Bx) (x y : Int) : Bool := decide (b.x0 ≤ x) && decide (x < b.x1) && decide (b.y0 ≤ y) && decide (y < b.y1)
theorem Has_q (a b c d x y : Int) : Cq Tryz.prog 202 [.agg #[ip a, ip b, ip c, ip d], .agg #[ip x, ip y]] (.bool ((Bx.mk a b c d).has x y)) := by
  refine cq_of_ev TT_ok mix Tryz.func202 (by kernel_rfl) rfl fun w => ?_
  repeat' ((conv => whnf); first | refine And.intro ?_ ?_ | intro _ | refine ret_q ?_ | exact RegOK.mk (by kernel_rfl) | fail)
  all_goals first | (simp_all [Bx.has]; done) | (simp_all [Bx.has] <;> omega)
def mx (x y : Int) : Int := if y > x then y else x
def mn (x y : Int) : Int := if y < x then y else x
def Bx.meet0 (b o : Bx) : Bx := ⟨mx b.x0 o.x0, mx b.y0 o.y0, mn b.x1 o.x1, mn b.y1 o.y1⟩
def Bx.meet (b o : Bx) : Bx := if (b.meet0 o).empty then ⟨0, 0, 0, 0⟩ else b.meet0 o
theorem Meet_q (a b c d e f g h : Int) : Cq Tryz.prog 139 [.agg #[ip a, ip b, ip c, ip d], .agg #[ip e, ip f, ip g, ip h]] (vBx ((Bx.mk a b c d).meet ⟨e, f, g, h⟩)) := by
  refine cq_of_ev TT_ok mix Tryz.func139 (by kernel_rfl) rfl fun w => ?_
  repeat' ((conv => whnf); first | refine And.intro ?_ ?_ | intro _ | refine ret_q ?_ | exact RegOK.mk (by kernel_rfl) | refine call_q (Empty_q _ _ _ _) ?_ | fail)
  all_goals (simp_all [Bx.meet, Bx.meet0, mx, mn]; done)
def Bx.join (b o : Bx) : Bx := if b.empty then (if o.empty then ⟨0, 0, 0, 0⟩ else o) else if o.empty then b else ⟨mn b.x0 o.x0, mn b.y0 o.y0, mx b.x1 o.x1, mx b.y1 o.y1⟩
theorem Join_q (a b c d e f g h : Int) : Cq Tryz.prog 22 [.agg #[ip a, ip b, ip c, ip d], .agg #[ip e, ip f, ip g, ip h]] (vBx ((Bx.mk a b c d).join ⟨e, f, g, h⟩)) := by
  refine cq_of_ev TT_ok mix Tryz.func22 (by kernel_rfl) rfl fun w => ?_
  repeat' ((conv => whnf); first | refine And.intro ?_ ?_ | intro _ | refine ret_q ?_ | exact RegOK.mk (by kernel_rfl) | refine call_q (Empty_q _ _ _ _) ?_ | fail)
  all_goals (simp_all [Bx.join, mx, mn]; done)
def mixI (a x c y : Int) : Int := sr (W (W (W (a * x) + W (c * y)) + 32768)) 16
theorem mix_q (a x c y : Int) : Cq Tryz.prog 112 [ip a, ip x, ip c, ip y] (ip (mixI a x c y)) := by
  refine cq_of_ev TT_ok mix Tryz.func112 (by kernel_rfl) rfl fun w => ?_
  repeat' ((conv => whnf); first | refine And.intro ?_ ?_ | intro _ | refine ret_q ?_ | exact RegOK.mk (by kernel_rfl) | fail)
  all_goals first | rfl | decide
def Mx.app (m : Mx) (p : Pt) : Pt := ⟨W (mixI m.a p.x m.c p.y + m.e), W (mixI m.b p.x m.d p.y + m.f)⟩
def Mx.ok (m : Mx) (p : Pt) : Bool := (m.right && p.inB) && (m.app p).inB
def Mx.applyP (m : Mx) (p : Pt) : Pt := if m.ok p then m.app p else ⟨0, 0⟩
def Mx.applyE (m : Mx) (p : Pt) : Int := if m.ok p then 0 else 10
theorem Apply_q (a b c d e f x y : Int) : Cq Tryz.prog 77 [.agg #[ip a, ip b, ip c, ip d, ip e, ip f], .agg #[ip x, ip y]] (.tuple #[vPt ((Mx.mk a b c d e f).applyP ⟨x, y⟩), ip ((Mx.mk a b c d e f).applyE ⟨x, y⟩)]) := by
  refine cq_of_ev TT_ok mix Tryz.func77 (by kernel_rfl) rfl fun w => ?_
  repeat' ((conv => whnf); first | refine And.intro ?_ ?_ | intro _ | refine ret_q ?_ | exact RegOK.mk (by kernel_rfl) | refine call_q (Right_q _ _ _ _ _ _) ?_ | refine call_q (PIn_q _ _) ?_ | refine call_q (mix_q _ _ _ _) ?_ | fail)
  all_goals (simp_all [Mx.applyP, Mx.applyE, Mx.ok, Mx.app]; done)
end Go.Ev

