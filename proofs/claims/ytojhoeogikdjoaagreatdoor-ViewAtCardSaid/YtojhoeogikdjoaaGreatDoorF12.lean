/- The law of a view's pixels; conditions: none. -/
import Derived.Test.YtojhoeogikdjoaaGreatDoorF11
set_option linter.unusedSimpArgs false
set_option linter.unusedVariables false
set_option maxRecDepth 10000
namespace Go.Ev
open Go.Proofs Go.RowKit

theorem fl26 : flatK Tryz.prog 26 = some [.i .i64, .i .i64] := by kernel_rfl
theorem eqPtT (a b c d : Int) (h1 : a = c) (h2 : b = d) : eqvL [ip a, ip b] [ip c, ip d] = true := by
  subst h1; subst h2
  exact (eqKy ⟨a, b⟩ ⟨a, b⟩).trans (by simp)
theorem ViewAtA (w0 : World) (X : Nat → Prop) (w h z x y px py : Int) (hs : w < 1 ∨ h < 1 ∨ 64 < w ∨ 64 < h) : Cf Tryz.prog 6 [.agg #[ip w, ip h, ip z, ip x, ip y, ip px, ip py]] w0 X [] (ι := Unit) (fun _ => .bool true) (fun _ => []) (fun _ _ _ => True) := by
  refine cf_of_ev TT_ok mix Tryz.func6 (by kernel_rfl) rfl fun M hM => ?_
  repeat' ((conv => whnf); first | (intro h; first | exact absurd h (by decide) | exact Bool.noConfusion h) | refine And.intro ?_ ?_ | intro _ | refine ret_q ?_ | exact RegOK.mk (by kernel_rfl) | refine call_q (vNewBad_q w h hs) ?_ | (refine call_n (fun w' X' _ hl => awake_f w' X') ?_; intro _ w9 E9 _ l9) | fail)
  all_goals ((refine ret_f (()) rfl rfl fun w' E' hl rel => Pv.go ?_); exact ⟨trivial⟩)
theorem ViewAtB (w0 : World) (X : Nat → Prop) (w h z x y px py : Int) (hs : 1 ≤ w ∧ 1 ≤ h ∧ w ≤ 64 ∧ h ≤ 64) (hp : px < -1048576 ∨ py < -1048576 ∨ 1048576 < px ∨ 1048576 < py) : Cf Tryz.prog 6 [.agg #[ip w, ip h, ip z, ip x, ip y, ip px, ip py]] w0 X [] (ι := Unit) (fun _ => .bool true) (fun _ => []) (fun _ _ _ => True) := by
  refine cf_of_ev TT_ok mix Tryz.func6 (by kernel_rfl) rfl fun M hM => ?_
  repeat' ((conv => whnf); first | (intro h; first | exact absurd h (by decide) | exact Bool.noConfusion h) | refine And.intro ?_ ?_ | intro _ | refine ret_q ?_ | exact RegOK.mk (by kernel_rfl) | (refine call_n (fun w' X' _ hl => vNew_f w' X' w h hs) ?_; intro ⟨v, c, r, d0⟩ w1 E1 hd0 l1) | (refine call_f [structP 140 v (cVw w h 0 0 0 c d0 0)] rfl (fun w' X' _ hl => PanBad_f w' X' v w h 0 0 0 c d0 0 px py hp) (.inl rfl) ?_; intro _ w4 E4 _ l4) | (refine call_n (fun w' X' _ hl => awake_f w' X') ?_; intro _ w9 E9 _ l9) | fail)
  all_goals ((refine ret_f (()) rfl rfl fun w' E' hl rel => Pv.go ?_); exact ⟨trivial⟩)
theorem ViewAtC (w0 : World) (X : Nat → Prop) (w h z x y px py : Int) (hs : 1 ≤ w ∧ 1 ≤ h ∧ w ≤ 64 ∧ h ≤ 64) (hp : -1048576 ≤ px ∧ -1048576 ≤ py ∧ px ≤ 1048576 ∧ py ≤ 1048576) (hz : z < -4 ∨ 4 < z) : Cf Tryz.prog 6 [.agg #[ip w, ip h, ip z, ip x, ip y, ip px, ip py]] w0 X [] (ι := Unit) (fun _ => .bool true) (fun _ => []) (fun _ _ _ => True) := by
  refine cf_of_ev TT_ok mix Tryz.func6 (by kernel_rfl) rfl fun M hM => ?_
  repeat' ((conv => whnf); first | (intro h; first | exact absurd h (by decide) | exact Bool.noConfusion h) | refine And.intro ?_ ?_ | intro _ | refine ret_q ?_ | exact RegOK.mk (by kernel_rfl) | (refine call_n (fun w' X' _ hl => vNew_f w' X' w h hs) ?_; intro ⟨v, c, r, d0⟩ w1 E1 hd0 l1) | (refine call_f [structP 140 v (cVw w h 0 0 0 c d0 0)] rfl (fun w' X' _ hl => Pan_f w' X' v w h 0 0 0 c d0 0 px py hp) (.inl rfl) ?_; intro _ w4 E4 _ l4) | (refine call_f [structP 140 v (cVw w h px py 0 c d0 0)] rfl (fun w' X' _ hl => ZoomBad_f w' X' v w h px py 0 c d0 0 z hz) (.inl rfl) ?_; intro _ w5 E5 _ l5) | (refine call_n (fun w' X' _ hl => awake_f w' X') ?_; intro _ w9 E9 _ l9) | fail)
  all_goals ((refine ret_f (()) rfl rfl fun w' E' hl rel => Pv.go ?_); exact ⟨trivial⟩)
theorem ViewAtD (w0 : World) (X : Nat → Prop) (w h z x y px py : Int) (hs : 1 ≤ w ∧ 1 ≤ h ∧ w ≤ 64 ∧ h ≤ 64) (hp : -1048576 ≤ px ∧ -1048576 ≤ py ∧ px ≤ 1048576 ∧ py ≤ 1048576) (hz : -4 ≤ z ∧ z ≤ 4) (hne : z ≠ 0) (ha : x < 0 ∨ y < 0 ∨ w ≤ x ∨ h ≤ y) : Cf Tryz.prog 6 [.agg #[ip w, ip h, ip z, ip x, ip y, ip px, ip py]] w0 X [] (ι := Unit) (fun _ => .bool true) (fun _ => []) (fun _ _ _ => True) := by
  refine cf_of_ev TT_ok mix Tryz.func6 (by kernel_rfl) rfl fun M hM => ?_
  repeat' ((conv => whnf); first | (intro h; first | exact absurd h (by decide) | exact Bool.noConfusion h) | (exfalso; simp only [decide_eq_true_eq, decide_eq_false_iff_not, ite_lt_, lt_ite_, gt_iff_lt, ge_iff_le] at *; omega) | refine And.intro ?_ ?_ | intro _ | refine ret_q ?_ | exact RegOK.mk (by kernel_rfl) | (refine call_n (fun w' X' _ hl => vNew_f w' X' w h hs) ?_; intro ⟨v, c, r, d0⟩ w1 E1 hd0 l1) | (refine call_f [structP 140 v (cVw w h 0 0 0 c d0 0)] rfl (fun w' X' _ hl => Pan_f w' X' v w h 0 0 0 c d0 0 px py hp) (.inl rfl) ?_; intro _ w4 E4 _ l4) | (refine call_f [structP 140 v (cVw w h px py 0 c d0 0), structP 189 c (cCa r none 0 0), mapP r vKy eIm [] 0] rfl (fun w' X' _ hl => ZoomOther_f w' X' v w h px py 0 c d0 0 r none 0 0 [] 0 z hz hne) (.inl rfl) ?_; intro _ w5 E5 _ l5) | (refine call_c (fun w' hm hl => AtBad_r w' v w h px py z c d0 0 x y ha ((rd_st 0 rfl rfl : RdAt _ ⟨v, 0, none⟩ (cVw w h px py z c d0 0)).dat hm)) ?_) | (refine call_n (fun w' X' _ hl => awake_f w' X') ?_; intro _ w9 E9 _ l9) | (refine eq_flatD fl26 rfl rfl (eqPtT _ _ _ _ rfl rfl) ?_) | fail)
  all_goals ((refine ret_f (()) rfl rfl fun w' E' hl rel => Pv.go ?_); exact ⟨trivial⟩)
theorem ViewAtE (w0 : World) (X : Nat → Prop) (w h x y px py : Int) (hs : 1 ≤ w ∧ 1 ≤ h ∧ w ≤ 64 ∧ h ≤ 64) (hp : -1048576 ≤ px ∧ -1048576 ≤ py ∧ px ≤ 1048576 ∧ py ≤ 1048576) (hz : -4 ≤ (0 : Int) ∧ (0 : Int) ≤ 4) (ha : x < 0 ∨ y < 0 ∨ w ≤ x ∨ h ≤ y) : Cf Tryz.prog 6 [.agg #[ip w, ip h, ip 0, ip x, ip y, ip px, ip py]] w0 X [] (ι := Unit) (fun _ => .bool true) (fun _ => []) (fun _ _ _ => True) := by
  refine cf_of_ev TT_ok mix Tryz.func6 (by kernel_rfl) rfl fun M hM => ?_
  repeat' ((conv => whnf); first | (intro h; first | exact absurd h (by decide) | exact Bool.noConfusion h) | (exfalso; simp only [decide_eq_true_eq, decide_eq_false_iff_not, ite_lt_, lt_ite_, gt_iff_lt, ge_iff_le] at *; omega) | refine And.intro ?_ ?_ | intro _ | refine ret_q ?_ | exact RegOK.mk (by kernel_rfl) | (refine call_n (fun w' X' _ hl => vNew_f w' X' w h hs) ?_; intro ⟨v, c, r, d0⟩ w1 E1 hd0 l1) | (refine call_f [structP 140 v (cVw w h 0 0 0 c d0 0)] rfl (fun w' X' _ hl => Pan_f w' X' v w h 0 0 0 c d0 0 px py hp) (.inl rfl) ?_; intro _ w4 E4 _ l4) | (refine call_f [structP 140 v (cVw w h px py 0 c d0 0)] rfl (fun w' X' _ hl => ZoomSame_f w' X' v w h px py 0 c d0 0 hz) (.inl rfl) ?_; intro _ w5 E5 _ l5) | (refine call_c (fun w' hm hl => AtBad_r w' v w h px py 0 c d0 0 x y ha ((rd_st 0 rfl rfl : RdAt _ ⟨v, 0, none⟩ (cVw w h px py 0 c d0 0)).dat hm)) ?_) | (refine call_n (fun w' X' _ hl => awake_f w' X') ?_; intro _ w9 E9 _ l9) | (refine eq_flatD fl26 rfl rfl (eqPtT _ _ _ _ rfl rfl) ?_) | fail)
  all_goals ((refine ret_f (()) rfl rfl fun w' E' hl rel => Pv.go ?_); exact ⟨trivial⟩)
theorem ViewAtF (w0 : World) (X : Nat → Prop) (w h z x y px py : Int) (hs : 1 ≤ w ∧ 1 ≤ h ∧ w ≤ 64 ∧ h ≤ 64) (hp : -1048576 ≤ px ∧ -1048576 ≤ py ∧ px ≤ 1048576 ∧ py ≤ 1048576) (hz : -4 ≤ z ∧ z ≤ 4) (hne : z ≠ 0) (ha : 0 ≤ x ∧ 0 ≤ y ∧ x < w ∧ y < h) : Cf Tryz.prog 6 [.agg #[ip w, ip h, ip z, ip x, ip y, ip px, ip py]] w0 X [] (ι := Unit) (fun _ => .bool true) (fun _ => []) (fun _ _ _ => True) := by
  have hX : atN (W (px + x)) z = refAt (W (px + x)) z := at_ref _ _ hz (by rw [show W (px + x) = px + x from i64_id (by omega)]; omega)
  have hY : atN (W (py + y)) z = refAt (W (py + y)) z := at_ref _ _ hz (by rw [show W (py + y) = py + y from i64_id (by omega)]; omega)
  refine cf_of_ev TT_ok mix Tryz.func6 (by kernel_rfl) rfl fun M hM => ?_
  repeat' ((conv => whnf); first | (intro h; first | exact absurd h (by decide) | exact Bool.noConfusion h) | (exfalso; simp only [decide_eq_true_eq, decide_eq_false_iff_not, ite_lt_, lt_ite_, gt_iff_lt, ge_iff_le] at *; omega) | refine And.intro ?_ ?_ | intro _ | refine ret_q ?_ | exact RegOK.mk (by kernel_rfl) | (refine call_n (fun w' X' _ hl => vNew_f w' X' w h hs) ?_; intro ⟨v, c, r, d0⟩ w1 E1 hd0 l1) | (refine call_f [structP 140 v (cVw w h 0 0 0 c d0 0)] rfl (fun w' X' _ hl => Pan_f w' X' v w h 0 0 0 c d0 0 px py hp) (.inl rfl) ?_; intro _ w4 E4 _ l4) | (refine call_f [structP 140 v (cVw w h px py 0 c d0 0), structP 189 c (cCa r none 0 0), mapP r vKy eIm [] 0] rfl (fun w' X' _ hl => ZoomOther_f w' X' v w h px py 0 c d0 0 r none 0 0 [] 0 z hz hne) (.inl rfl) ?_; intro _ w5 E5 _ l5) | (refine call_c (fun w' hm hl => At_r w' v w h px py z c d0 0 x y ha hz ((rd_st 0 rfl rfl : RdAt _ ⟨v, 0, none⟩ (cVw w h px py z c d0 0)).dat hm)) ?_) | (refine call_n (fun w' X' _ hl => awake_f w' X') ?_; intro _ w9 E9 _ l9) | (refine eq_flatD fl26 rfl rfl (eqPtT _ _ _ _ hX hY) ?_) | refine call_q (RefAt_q _ _ hz) ?_ | fail)
  all_goals ((refine ret_f (()) rfl rfl fun w' E' hl rel => Pv.go ?_); exact ⟨trivial⟩)
theorem ViewAtG (w0 : World) (X : Nat → Prop) (w h x y px py : Int) (hs : 1 ≤ w ∧ 1 ≤ h ∧ w ≤ 64 ∧ h ≤ 64) (hp : -1048576 ≤ px ∧ -1048576 ≤ py ∧ px ≤ 1048576 ∧ py ≤ 1048576) (hz : -4 ≤ (0 : Int) ∧ (0 : Int) ≤ 4) (ha : 0 ≤ x ∧ 0 ≤ y ∧ x < w ∧ y < h) : Cf Tryz.prog 6 [.agg #[ip w, ip h, ip 0, ip x, ip y, ip px, ip py]] w0 X [] (ι := Unit) (fun _ => .bool true) (fun _ => []) (fun _ _ _ => True) := by
  have hX : atN (W (px + x)) 0 = refAt (W (px + x)) 0 := at_ref _ _ hz (by rw [show W (px + x) = px + x from i64_id (by omega)]; omega)
  have hY : atN (W (py + y)) 0 = refAt (W (py + y)) 0 := at_ref _ _ hz (by rw [show W (py + y) = py + y from i64_id (by omega)]; omega)
  refine cf_of_ev TT_ok mix Tryz.func6 (by kernel_rfl) rfl fun M hM => ?_
  repeat' ((conv => whnf); first | (intro h; first | exact absurd h (by decide) | exact Bool.noConfusion h) | (exfalso; simp only [decide_eq_true_eq, decide_eq_false_iff_not, ite_lt_, lt_ite_, gt_iff_lt, ge_iff_le] at *; omega) | refine And.intro ?_ ?_ | intro _ | refine ret_q ?_ | exact RegOK.mk (by kernel_rfl) | (refine call_n (fun w' X' _ hl => vNew_f w' X' w h hs) ?_; intro ⟨v, c, r, d0⟩ w1 E1 hd0 l1) | (refine call_f [structP 140 v (cVw w h 0 0 0 c d0 0)] rfl (fun w' X' _ hl => Pan_f w' X' v w h 0 0 0 c d0 0 px py hp) (.inl rfl) ?_; intro _ w4 E4 _ l4) | (refine call_f [structP 140 v (cVw w h px py 0 c d0 0)] rfl (fun w' X' _ hl => ZoomSame_f w' X' v w h px py 0 c d0 0 hz) (.inl rfl) ?_; intro _ w5 E5 _ l5) | (refine call_c (fun w' hm hl => At_r w' v w h px py 0 c d0 0 x y ha hz ((rd_st 0 rfl rfl : RdAt _ ⟨v, 0, none⟩ (cVw w h px py 0 c d0 0)).dat hm)) ?_) | (refine call_n (fun w' X' _ hl => awake_f w' X') ?_; intro _ w9 E9 _ l9) | (refine eq_flatD fl26 rfl rfl (eqPtT _ _ _ _ hX hY) ?_) | refine call_q (RefAt_q _ _ hz) ?_ | fail)
  all_goals ((refine ret_f (()) rfl rfl fun w' E' hl rel => Pv.go ?_); exact ⟨trivial⟩)
theorem ViewAt_f (w0 : World) (X : Nat → Prop) (w h z x y px py : Int) : Cf Tryz.prog 6 [.agg #[ip w, ip h, ip z, ip x, ip y, ip px, ip py]] w0 X [] (ι := Unit) (fun _ => .bool true) (fun _ => []) (fun _ _ _ => True) := by
  by_cases hs : 1 ≤ w ∧ 1 ≤ h ∧ w ≤ 64 ∧ h ≤ 64
  · by_cases hp : -1048576 ≤ px ∧ -1048576 ≤ py ∧ px ≤ 1048576 ∧ py ≤ 1048576
    · by_cases hz : -4 ≤ z ∧ z ≤ 4
      · by_cases ha : 0 ≤ x ∧ 0 ≤ y ∧ x < w ∧ y < h
        · by_cases hne : z = 0
          · subst hne; exact ViewAtG _ _ _ _ _ _ _ _ hs hp hz ha
          · exact ViewAtF _ _ _ _ _ _ _ _ _ hs hp hz hne ha
        · by_cases hne : z = 0
          · subst hne; exact ViewAtE _ _ _ _ _ _ _ _ hs hp hz (by omega)
          · exact ViewAtD _ _ _ _ _ _ _ _ _ hs hp hz hne (by omega)
      · exact ViewAtC _ _ _ _ _ _ _ _ _ hs hp (by omega)
    · exact ViewAtB _ _ _ _ _ _ _ _ _ hs (by omega)
  · exact ViewAtA _ _ _ _ _ _ _ _ _ (by omega)
end Go.Ev

