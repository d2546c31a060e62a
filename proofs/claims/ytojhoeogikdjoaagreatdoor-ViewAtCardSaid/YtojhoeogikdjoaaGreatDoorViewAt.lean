/- The law ViewAt: whatever the input, the call returns true and its argument reads as before; the listed variables are tied to the program's text by the given tie; conditions: none beyond the card's own. -/
import Derived.Test.YtojhoeogikdjoaaGreatDoorF12
import Derived.Test.YtojhoeogikdjoaaGreatDoorCards
import Derived.Test.YtojhoeogikdjoaaGreatDoorTie
import Derived.ProofKit
import Derived.LaidMore
import Derived.OpenShut
import Derived.Stop.Joined
import Derived.SevenTiedAt
import Derived.SizedLaws
set_option linter.unusedSimpArgs false
set_option linter.unusedVariables false
namespace Go.Proofs.YtojhoeogikdjoaaGreatDoor
open Go.ChangeShapes Go.WideShapes Go.ChangeAt Go.RowKit

theorem own : ownKnob Tryz.prog.godebug = none := by kernel_rfl
theorem laidOut : laidOutB Tryz.prog = true := by kernel_rfl
theorem door_met (os : Os) (args : Array Value) : laidMetH Tryz.prog Rows.viewAtRow.laid ((World.doorLaid Tryz.prog 400 os).forCall (fun _ _ => 0) ⟨#[], args, []⟩).memory :=
  laidMetH_of_parts3 (fuel := 8) (laidMet_of_run' 8 (by kernel_rfl) (by kernel_rfl)) (by kernel_rfl) (by kernel_rfl)

theorem viewAt_calls (w : World) (a b c d e f g : Int) :
    Calls Tryz.prog 6 #[.agg #[.int .i64 a, .int .i64 b, .int .i64 c, .int .i64 d, .int .i64 e, .int .i64 f, .int .i64 g]] w fun x w' => x = .returned (.bool true) ∧ Below w.heap.size w w' := by
  have h := (Ev.ViewAt_f w (fun _ => False) a b c d e f g).go (fun _ _ => False) (by intro i o hi; simp at hi)
  refine Calls.mono h.2 ?_
  rintro x w' ⟨v, rfl, i, fp', rfl, hg, -, -⟩
  exact ⟨rfl, (hg.mono (G := fun _ => False) (by rintro b ⟨j, hj, _⟩; simp at hj)).below⟩

theorem list7 {α : Type} : ∀ {l : List α}, l.length = 7 → ∃ a b c d e f g, l = [a, b, c, d, e, f, g]
  | [a, b, c, d, e, f, g], _ => ⟨a, b, c, d, e, f, g, rfl⟩
theorem list6 {α : Type} : ∀ {l : List α}, l.length = 6 → ∃ a b c d e f, l = [a, b, c, d, e, f]
  | [a, b, c, d, e, f], _ => ⟨a, b, c, d, e, f, rfl⟩
/-- The cells of the law's argument. -/
theorem viewAt_arg {H : Type} {enc : TypeId × Value → H} {w : World} {base : Nat} {sp : Nat → Bool} {held : Bool} {fuel : Nat} {cs : List Value} {x : DataW H × List MemPlace}
    (h : DataW.trod enc Tryz.prog w base sp held fuel 89 cs = some x) :
    ∃ a b c d e f g : Int, cs = [.int .i64 a, .int .i64 b, .int .i64 c, .int .i64 d, .int .i64 e, .int .i64 f, .int .i64 g] := by
  obtain ⟨xs, n, _, _, hl, hlen, hf⟩ := DataW.trod_struct Tryz.underlying89 h
  have c3 : Tryz.prog.cellsOf 3 = 1 := by kernel_rfl
  have c26 : Tryz.prog.cellsOf 26 = 2 := by kernel_rfl
  have c89 : Tryz.prog.cellsOf 89 = 7 := by kernel_rfl
  rw [c89] at hl
  obtain ⟨v0, v1, v2, v3, v4, v5, v6, rfl⟩ := list7 hl
  obtain ⟨y0, y1, y2, y3, y4, y5, rfl⟩ := list6 hlen
  have h0 : DataW.trod enc Tryz.prog w base sp held n 3 (([v0, v1, v2, v3, v4, v5, v6].drop 0).take (Tryz.prog.cellsOf 3)) = some y0 := hf 0 _ rfl
  have h1 : DataW.trod enc Tryz.prog w base sp held n 3 (([v0, v1, v2, v3, v4, v5, v6].drop 1).take (Tryz.prog.cellsOf 3)) = some y1 := hf 1 _ rfl
  have h2 : DataW.trod enc Tryz.prog w base sp held n 3 (([v0, v1, v2, v3, v4, v5, v6].drop 2).take (Tryz.prog.cellsOf 3)) = some y2 := hf 2 _ rfl
  have h3 : DataW.trod enc Tryz.prog w base sp held n 3 (([v0, v1, v2, v3, v4, v5, v6].drop 3).take (Tryz.prog.cellsOf 3)) = some y3 := hf 3 _ rfl
  have h4 : DataW.trod enc Tryz.prog w base sp held n 3 (([v0, v1, v2, v3, v4, v5, v6].drop 4).take (Tryz.prog.cellsOf 3)) = some y4 := hf 4 _ rfl
  have h5 : DataW.trod enc Tryz.prog w base sp held n 26 (([v0, v1, v2, v3, v4, v5, v6].drop 5).take (Tryz.prog.cellsOf 26)) = some y5 := hf 5 _ rfl
  clear hf
  rw [c3] at h0 h1 h2 h3 h4
  rw [c26] at h5
  obtain ⟨a, e0, _⟩ := DataW.trod_int Tryz.underlying3 h0
  obtain rfl : v0 = .int .i64 a := (List.cons.inj (show [v0] = [.int .i64 a] from e0)).1
  obtain ⟨b, e1, _⟩ := DataW.trod_int Tryz.underlying3 h1
  obtain rfl : v1 = .int .i64 b := (List.cons.inj (show [v1] = [.int .i64 b] from e1)).1
  obtain ⟨c, e2, _⟩ := DataW.trod_int Tryz.underlying3 h2
  obtain rfl : v2 = .int .i64 c := (List.cons.inj (show [v2] = [.int .i64 c] from e2)).1
  obtain ⟨d, e3, _⟩ := DataW.trod_int Tryz.underlying3 h3
  obtain rfl : v3 = .int .i64 d := (List.cons.inj (show [v3] = [.int .i64 d] from e3)).1
  obtain ⟨e, e4, _⟩ := DataW.trod_int Tryz.underlying3 h4
  obtain rfl : v4 = .int .i64 e := (List.cons.inj (show [v4] = [.int .i64 e] from e4)).1
  obtain ⟨z0, z1, m, _, _, k0, k1⟩ := trod_struct2 Tryz.underlying26 h5
  have k0 : DataW.trod enc Tryz.prog w base sp held m 3 (([v5, v6].drop 0).take (Tryz.prog.cellsOf 3)) = some z0 := k0
  have k1 : DataW.trod enc Tryz.prog w base sp held m 3 (([v5, v6].drop 1).take (Tryz.prog.cellsOf 3)) = some z1 := k1
  rw [c3] at k0 k1
  obtain ⟨f, e5, _⟩ := DataW.trod_int Tryz.underlying3 k0
  obtain rfl : v5 = .int .i64 f := (List.cons.inj (show [v5] = [.int .i64 f] from e5)).1
  obtain ⟨g, e6, _⟩ := DataW.trod_int Tryz.underlying3 k1
  obtain rfl : v6 = .int .i64 g := (List.cons.inj (show [v6] = [.int .i64 g] from e6)).1
  exact ⟨a, b, c, d, e, f, g, rfl⟩

set_option maxRecDepth 100000 in
theorem viewAt_lifted (os : Os) (started : os.Started) (H : Type) (enc : TypeId × Value → H) :
    ReturnsInHanded {} Tryz.checked os 6 .any (fun w args => (Rows.viewAtSpec.pre enc Tryz.prog Tryz.f6 [] false w args ∧ laidMetH Tryz.prog Rows.viewAtRow.laid w) ∧ sizedMet enc Tryz.prog Tryz.f6 (OpenSpec.ofChange Rows.viewAtSpec) false w args)
      (Rows.viewAtSpec.post enc Tryz.prog Tryz.f6 false true false false) := by
  refine returnsInHanded_of_change_and (C := Tryz.checked) (X := fun w _ => laidMetH Tryz.prog Rows.viewAtRow.laid w) (fun _ _ _ hh h => h.of_heap hh) own started (by kernel_rfl) Tryz.func6
    (ChangeSpec.witness_shaped (enc := enc) (C := Tryz.checked) (os := os) (X := fun w _ => laidMetH Tryz.prog Rows.viewAtRow.laid w) false (World.doorLaid Tryz.prog 400 os) #[.agg #[.int .i64 0, .int .i64 0, .int .i64 0, .int .i64 0, .int .i64 0, .int .i64 0, .int .i64 0]] 8 rfl (World.shaped_of_RefB (by kernel_rfl) (by kernel_rfl)) (by kernel_rfl) (by kernel_rfl) (by kernel_rfl) (door_met os _)) ?_
  intro W base args ds gs before hval0 hW _ _ hL _
  have hval : ∀ (j : Nat) t v, Tryz.f6.params[j]? = some t → args[j]? = some v → Value.okWide Tryz.prog W .any base t v := hval0
  have hW' := hW
  obtain ⟨p, q, hA0, hV, rfl, hfz, hnd⟩ := hW
  have hA : DataW.TrodAll enc Tryz.prog W 0 (fun _ => true) true Tryz.f6.params.toList args.toList ds p := hA0
  rw [Tryz.params6] at hA hval
  obtain ⟨v0, d0, rfl, rfl, h0⟩ := trodAll_one hA
  obtain ⟨rfl, rfl⟩ := trodVars_none hV
  have h0k := h0
  obtain ⟨fuel, hf⟩ := h0
  obtain ⟨cs, rfl, hcs⟩ := okWide_struct Tryz.underlying89 (hval 0 89 v0 rfl rfl)
  obtain ⟨a, b, c, d, e, f, g, hc⟩ := viewAt_arg hf
  clear hA0 hval0
  simp only [List.append_nil] at hW'
  have hlt : ∀ x ∈ p, x.block < W.heap.size := fun x hx => by simpa using hW'.lt x hx
  have ecs : cs = #[.int .i64 a, .int .i64 b, .int .i64 c, .int .i64 d, .int .i64 e, .int .i64 f, .int .i64 g] := by
    have : cs.toList = [.int .i64 a, .int .i64 b, .int .i64 c, .int .i64 d, .int .i64 e, .int .i64 f, .int .i64 g] := hc
    rw [← Array.toArray_toList (xs := cs), this]
  subst ecs
  refine (viewAt_calls W a b c d e f g).mono ?_
  rintro x W' ⟨rfl, hb⟩
  exact ⟨_, rfl, _, _, _, [], p, [], hW', trodAll_mk1 (shut_bool Tryz.underlying4 _), trodAll_mk1 (Below.trod laidOut (by kernel_rfl) (of_decide_eq_true (by kernel_rfl)) h0k hb hlt), rfl, hb.frame _, fun h => by cases h⟩

theorem viewAt_holds : Rows.ViewAtSaid :=
  OpenClaim.holds_of_wide 6 Tryz.f6 rfl rfl rfl rfl rfl rfl rfl ⟨rfl, rfl, rfl, rfl, rfl⟩ rfl rfl rfl rfl rfl (by kernel_rfl) Tryz.func6 (by kernel_rfl)
    (of_decide_eq_true (by kernel_rfl)) (by unfold Func.isWrapper; first | (rw [if_pos (by decide +kernel)]; kernel_rfl) | (rw [if_neg (by decide +kernel)]; exact ⟨rfl, rfl⟩))
    (fun os started H enc _ => viewAt_lifted os started H enc)

theorem viewAt_card_holds : Rows.ViewAtCardSaid :=
  Claim7.holds_tied_plain_at .later [] [.data, .data] true (true, "b8024d3505544da626b14f2a8118e3ed3af8a332be6a9e12a326d21868c7233d") true
    viewAt_holds (fun _ h => by cases h) (by kernel_rfl) (fun _ h => by cases h) viewAt_row_tie rfl ⟨rfl, rfl⟩ (by kernel_rfl) rfl
    (fun f fn hf hfn => by
      obtain rfl : f = 6 := Option.some.inj ((show Tryz.prog.funcNamed "limner/limnerlaw24.ViewAt" = some 6 by kernel_rfl).symm.trans hf) |>.symm
      obtain rfl : fn = Tryz.f6 := (Option.some.inj (Tryz.func6.symm.trans hfn)).symm
      exact ⟨by kernel_rfl, fun j t ht => by
        rw [Tryz.params6] at ht
        have hm : t ∈ [89] := by simpa using Array.mem_of_getElem? ht
        have hall : ([89].all fun u => !Tryz.prog.wantsStandIn u) = true := by kernel_rfl
        exact (show Tryz.prog.wantsStandIn t = false by simpa using List.all_eq_true.1 hall t hm)⟩)
    (by kernel_rfl)
#print axioms viewAt_card_holds
end Go.Proofs.YtojhoeogikdjoaaGreatDoor
