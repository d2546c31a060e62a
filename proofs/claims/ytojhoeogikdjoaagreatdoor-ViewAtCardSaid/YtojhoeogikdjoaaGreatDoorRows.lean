/-
  NARROWER THAN 'FOR EVERY INPUT', by the rows' own cells (each row's printed sentence says how): HitAll: laid · HitAligns: laid · HitLines: laid · ViewAt: laid.
  DERIVED. THE GIVEN ROWS OF THIS SEAT. 4 by the template 'for every input the law returns true; each argument reads behind the call as it read before'; 0 by the template 'total and deterministic' (their statements: YtojhoeogikdjoaaGreatDoorTotals.lean).
  GIVEN WITH THE SEED: the statements are not yours to turn. If you find one false, say at which input.
  Laid BY PROGRAM, IN A SANDBOX (cutbox-rows.mjs): the forced cells as the released guide's own fill.sh prints them over the translation ca3efa7e2ccbac67… (all of the seat's roots in one cut). By AI agents, Wed Nov 11 2026. No macro, syntax, notation, axiom, sorry.
-/
import Derived.Test.YtojhoeogikdjoaaGreatDoorChecked
import GoSem.Claim
import GoSem.ClaimJoined
import GoSem.ClaimMapViews
import Derived.JoinedTies
import Derived.KernelRfl
namespace Go.Proofs.YtojhoeogikdjoaaGreatDoor
/- THE CELL 'sum', in the pinned program and in every row, IS THE sha256 OF THE DUMP (.gsa) THAT YtojhoeogikdjoaaGreatDoorProg.lean LOADS. Nothing in Lean hashes anything: it is a label: what it is worth is what the hold of that sum in a sandbox is worth. -/
noncomputable def Tryz.pinned : Pinned := { name := "ytojhoeogikdjoaagreatdoor", sum := "ca3efa7e2ccbac6799c90e18254a3294a51d34ecee309a62d0d43e498c498887", checked := Tryz.checked }
namespace Rows
def none {H : Type} : Left H := { results := [], args := [] }

/- WHAT THE LISTED PACKAGE-LEVEL VARIABLES READ AS WHEN THE CALL BEGINS. Each datum BY PROGRAM (the guide's laid-datum.mjs) off the statement by which the dump's own 'gosem.cut.vars' lays the variable. In a bare row this is a premise. The card (YtojhoeogikdjoaaGreatDoorCards.lean) ties it to the program's text. -/
def laid_limner_path_needs {H : Type} : DataW H := .agg [.lit (.int .i64 0), .lit (.int .i64 1), .lit (.int .i64 1), .lit (.int .i64 2), .lit (.int .i64 3), .lit (.int .i64 0)]
def laid_limner_stroke_cosines {H : Type} : DataW H := .agg [.lit (.int .i64 65536), .lit (.int .i64 60547), .lit (.int .i64 46341), .lit (.int .i64 25080), .lit (.int .i64 0), .lit (.int .i64 (-25080)), .lit (.int .i64 (-46341)), .lit (.int .i64 (-60547)), .lit (.int .i64 (-65536)), .lit (.int .i64 (-60547)), .lit (.int .i64 (-46341)), .lit (.int .i64 (-25080)), .lit (.int .i64 0), .lit (.int .i64 25080), .lit (.int .i64 46341), .lit (.int .i64 60547)]

/-- 'limnerlaw22.HitAll': WHATEVER THE INPUT: true; the input reads as it did. -/
def hitAllSpec : ChangeSpec := { name := "hitAll", fn := fun _ => fun
  | [d1, d2, d3] => { results := [.lit (.bool true)], args := [d1, d2, d3] }
  | _ => none }
def hitAllRow : OpenClaim := { program := "ytojhoeogikdjoaagreatdoor", sum := "ca3efa7e2ccbac6799c90e18254a3294a51d34ecee309a62d0d43e498c498887", func := "limner/limnerlaw22.HitAll", spec := "hitAll", inPlace := ["slices.overlaps[int]", "math/bits.Add64", "math/bits.Sub64"], unfollowed := true, recurses := true, named := ["limner/path.needs", "math/bits.divideError", "math/bits.overflowError", "limner/stroke.cosines"], plainKeys := false, apart := false, laid := [("limner/path.needs", laid_limner_path_needs), ("limner/stroke.cosines", laid_limner_stroke_cosines)] }
def HitAllSaid : Prop := hitAllRow.holds Tryz.pinned (OpenSpec.ofChange hitAllSpec)

/-- ITS FALSE NEIGHBOUR: 'it returns false'. Refute it at one input. -/
def hitAllWrong : ChangeSpec := { name := "hitAll", fn := fun _ => fun
  | [d1, d2, d3] => { results := [.lit (.bool false)], args := [d1, d2, d3] }
  | _ => none }
def HitAllWrongFalsely : Prop := hitAllRow.holds Tryz.pinned (OpenSpec.ofChange hitAllWrong)

/-- 'limnerlaw22.HitAligns': WHATEVER THE INPUT: true; the input reads as it did. -/
def hitAlignsSpec : ChangeSpec := { name := "hitAligns", fn := fun _ => fun
  | [d1, d2, d3] => { results := [.lit (.bool true)], args := [d1, d2, d3] }
  | _ => none }
def hitAlignsRow : OpenClaim := { program := "ytojhoeogikdjoaagreatdoor", sum := "ca3efa7e2ccbac6799c90e18254a3294a51d34ecee309a62d0d43e498c498887", func := "limner/limnerlaw22.HitAligns", spec := "hitAligns", inPlace := ["slices.overlaps[int]", "math/bits.Add64", "math/bits.Sub64"], unfollowed := true, recurses := true, named := ["limner/path.needs", "math/bits.divideError", "math/bits.overflowError", "limner/stroke.cosines"], plainKeys := false, apart := false, laid := [("limner/path.needs", laid_limner_path_needs), ("limner/stroke.cosines", laid_limner_stroke_cosines)] }
def HitAlignsSaid : Prop := hitAlignsRow.holds Tryz.pinned (OpenSpec.ofChange hitAlignsSpec)

/-- ITS FALSE NEIGHBOUR: 'it returns false'. Refute it at one input. -/
def hitAlignsWrong : ChangeSpec := { name := "hitAligns", fn := fun _ => fun
  | [d1, d2, d3] => { results := [.lit (.bool false)], args := [d1, d2, d3] }
  | _ => none }
def HitAlignsWrongFalsely : Prop := hitAlignsRow.holds Tryz.pinned (OpenSpec.ofChange hitAlignsWrong)

/-- 'limnerlaw22.HitLines': WHATEVER THE INPUT: true; the input reads as it did. -/
def hitLinesSpec : ChangeSpec := { name := "hitLines", fn := fun _ => fun
  | [d1, d2, d3] => { results := [.lit (.bool true)], args := [d1, d2, d3] }
  | _ => none }
def hitLinesRow : OpenClaim := { program := "ytojhoeogikdjoaagreatdoor", sum := "ca3efa7e2ccbac6799c90e18254a3294a51d34ecee309a62d0d43e498c498887", func := "limner/limnerlaw22.HitLines", spec := "hitLines", inPlace := ["slices.overlaps[int]", "math/bits.Add64", "math/bits.Sub64"], unfollowed := true, recurses := true, named := ["limner/path.needs", "math/bits.divideError", "math/bits.overflowError", "limner/stroke.cosines"], plainKeys := false, apart := false, laid := [("limner/path.needs", laid_limner_path_needs), ("limner/stroke.cosines", laid_limner_stroke_cosines)] }
def HitLinesSaid : Prop := hitLinesRow.holds Tryz.pinned (OpenSpec.ofChange hitLinesSpec)

/-- ITS FALSE NEIGHBOUR: 'it returns false'. Refute it at one input. -/
def hitLinesWrong : ChangeSpec := { name := "hitLines", fn := fun _ => fun
  | [d1, d2, d3] => { results := [.lit (.bool false)], args := [d1, d2, d3] }
  | _ => none }
def HitLinesWrongFalsely : Prop := hitLinesRow.holds Tryz.pinned (OpenSpec.ofChange hitLinesWrong)

/-- 'limnerlaw24.ViewAt': WHATEVER THE INPUT: true; the input reads as it did. -/
def viewAtSpec : ChangeSpec := { name := "viewAt", fn := fun _ => fun
  | [d] => { results := [.lit (.bool true)], args := [d] }
  | _ => none }
def viewAtRow : OpenClaim := { program := "ytojhoeogikdjoaagreatdoor", sum := "ca3efa7e2ccbac6799c90e18254a3294a51d34ecee309a62d0d43e498c498887", func := "limner/limnerlaw24.ViewAt", spec := "viewAt", inPlace := ["math/bits.Add64", "math/bits.Sub64", "maps.clone"], unfollowed := true, recurses := true, named := ["limner/path.needs", "math/bits.divideError", "math/bits.overflowError", "limner/stroke.cosines"], plainKeys := false, apart := false, laid := [("limner/path.needs", laid_limner_path_needs), ("limner/stroke.cosines", laid_limner_stroke_cosines)] }
def ViewAtSaid : Prop := viewAtRow.holds Tryz.pinned (OpenSpec.ofChange viewAtSpec)

/-- ITS FALSE NEIGHBOUR: 'it returns false'. Refute it at one input. -/
def viewAtWrong : ChangeSpec := { name := "viewAt", fn := fun _ => fun
  | [d] => { results := [.lit (.bool false)], args := [d] }
  | _ => none }
def ViewAtWrongFalsely : Prop := viewAtRow.holds Tryz.pinned (OpenSpec.ofChange viewAtWrong)

/- THE SECOND FORM. 'bulk': how many values and letters a reading holds, each counted each time it is reached (what is shared counts as often as it is met; a slice's spare places count too). A statement '..UptoSaid' is the law's where the arguments, and the package variables that the reading takes, are together of bulk at most 1048576: NARROWER than '..Said'. Prove '..Said' where nothing that the law and all that it calls make is longer than what came in: it says more and counts as full. Else prove '..UptoSaid'. A law counts once. -/
mutual
def uptoBulk {H : Type} : DataW H → Nat
  | .lit (.string bytes) => bytes.length + 1
  | .lit _ => 1
  | .nil => 1
  | .ptr d => uptoBulk d + 1
  | .slice elems spare => uptoBulkAll elems + uptoBulkAll spare + 1
  | .agg parts => uptoBulkAll parts + 1
  | .iface _ d => uptoBulk d + 1
  | .map entries => uptoBulkEntries entries + 1
  | .held _ => 1
def uptoBulkAll {H : Type} : List (DataW H) → Nat
  | [] => 0
  | d :: r => uptoBulk d + uptoBulkAll r
def uptoBulkEntries {H : Type} : List (Lit × DataW H) → Nat
  | [] => 0
  | x :: r => uptoBulkEntry x + uptoBulkEntries r
def uptoBulkEntry {H : Type} : Lit × DataW H → Nat
  | (.string bytes, d) => bytes.length + uptoBulk d + 1
  | (_, d) => uptoBulk d + 1
 end
def uptoSmall : (H : Type) → List (DataW H) → Bool := fun _ ds => decide (uptoBulkAll ds ≤ 1048576)
def OpenSpec.upto (s : _root_.Go.ChangeSpec) : _root_.Go.OpenSpec := { _root_.Go.OpenSpec.ofChange s with cond := some uptoSmall }

/-- 'limnerlaw22.HitAll', WHERE WHAT IT READS IS OF BULK AT MOST 1048576: true; the input reads as it did. -/
def hitAllUptoRow : OpenClaim := { program := "ytojhoeogikdjoaagreatdoor", sum := "ca3efa7e2ccbac6799c90e18254a3294a51d34ecee309a62d0d43e498c498887", func := "limner/limnerlaw22.HitAll", spec := "hitAll", inPlace := ["slices.overlaps[int]", "math/bits.Add64", "math/bits.Sub64"], unfollowed := true, recurses := true, named := ["limner/path.needs", "math/bits.divideError", "math/bits.overflowError", "limner/stroke.cosines"], plainKeys := false, apart := false, laid := [("limner/path.needs", laid_limner_path_needs), ("limner/stroke.cosines", laid_limner_stroke_cosines)], narrowed := true }
def HitAllUptoSaid : Prop := hitAllUptoRow.holds Tryz.pinned (OpenSpec.upto hitAllSpec)

/-- 'limnerlaw22.HitAligns', WHERE WHAT IT READS IS OF BULK AT MOST 1048576: true; the input reads as it did. -/
def hitAlignsUptoRow : OpenClaim := { program := "ytojhoeogikdjoaagreatdoor", sum := "ca3efa7e2ccbac6799c90e18254a3294a51d34ecee309a62d0d43e498c498887", func := "limner/limnerlaw22.HitAligns", spec := "hitAligns", inPlace := ["slices.overlaps[int]", "math/bits.Add64", "math/bits.Sub64"], unfollowed := true, recurses := true, named := ["limner/path.needs", "math/bits.divideError", "math/bits.overflowError", "limner/stroke.cosines"], plainKeys := false, apart := false, laid := [("limner/path.needs", laid_limner_path_needs), ("limner/stroke.cosines", laid_limner_stroke_cosines)], narrowed := true }
def HitAlignsUptoSaid : Prop := hitAlignsUptoRow.holds Tryz.pinned (OpenSpec.upto hitAlignsSpec)

/-- 'limnerlaw22.HitLines', WHERE WHAT IT READS IS OF BULK AT MOST 1048576: true; the input reads as it did. -/
def hitLinesUptoRow : OpenClaim := { program := "ytojhoeogikdjoaagreatdoor", sum := "ca3efa7e2ccbac6799c90e18254a3294a51d34ecee309a62d0d43e498c498887", func := "limner/limnerlaw22.HitLines", spec := "hitLines", inPlace := ["slices.overlaps[int]", "math/bits.Add64", "math/bits.Sub64"], unfollowed := true, recurses := true, named := ["limner/path.needs", "math/bits.divideError", "math/bits.overflowError", "limner/stroke.cosines"], plainKeys := false, apart := false, laid := [("limner/path.needs", laid_limner_path_needs), ("limner/stroke.cosines", laid_limner_stroke_cosines)], narrowed := true }
def HitLinesUptoSaid : Prop := hitLinesUptoRow.holds Tryz.pinned (OpenSpec.upto hitLinesSpec)

/-- 'limnerlaw24.ViewAt', WHERE WHAT IT READS IS OF BULK AT MOST 1048576: true; the input reads as it did. -/
def viewAtUptoRow : OpenClaim := { program := "ytojhoeogikdjoaagreatdoor", sum := "ca3efa7e2ccbac6799c90e18254a3294a51d34ecee309a62d0d43e498c498887", func := "limner/limnerlaw24.ViewAt", spec := "viewAt", inPlace := ["math/bits.Add64", "math/bits.Sub64", "maps.clone"], unfollowed := true, recurses := true, named := ["limner/path.needs", "math/bits.divideError", "math/bits.overflowError", "limner/stroke.cosines"], plainKeys := false, apart := false, laid := [("limner/path.needs", laid_limner_path_needs), ("limner/stroke.cosines", laid_limner_stroke_cosines)], narrowed := true }
def ViewAtUptoSaid : Prop := viewAtUptoRow.holds Tryz.pinned (OpenSpec.upto viewAtSpec)

end Rows
end Go.Proofs.YtojhoeogikdjoaaGreatDoor
