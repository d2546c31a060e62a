/- Contracts of single functions: a view's small methods; conditions: none. -/
import Derived.Test.YtojhoeogikdjoaaGreatDoorF7
set_option linter.unusedSimpArgs false
set_option linter.unusedVariables false
set_option maxRecDepth 10000
namespace Go.Ev
open Go.Proofs Go.RowKit

theorem ite_lt_ {c : Prop} [Decidable c] {a b k : Int} : ((if c then a else b) < k) ↔ (c ∧ a < k) ∨ (¬ c ∧ b < k) := by by_cases h : c <;> simp [h]
theorem lt_ite_ {c : Prop} [Decidable c] {a b k : Int} : (k < (if c then a else b)) ↔ (c ∧ k < a) ∨ (¬ c ∧ k < b) := by by_cases h : c <;> simp [h]

abbrev cVw (w h px py z : Int) (c d : Nat) (n : Int) : List Value := [ip w, ip h, ip px, ip py, ip z, ptr c, ptr d, ip n]
theorem vNewBad_q (w h : Int) (hb : w < 1 ∨ h < 1 ∨ 64 < w ∨ 64 < h) : Cq Tryz.prog 26 [ip w, ip h] (.pointer none) := by
  refine cq_of_ev TT_ok mix Tryz.func26 (by kernel_rfl) rfl fun w => ?_
  repeat' ((conv => whnf); first | (exfalso; simp only [decide_eq_true_eq, decide_eq_false_iff_not, ite_lt_, lt_ite_, gt_iff_lt, ge_iff_le] at *; omega) | refine And.intro ?_ ?_ | intro _ | refine ret_q ?_ | exact RegOK.mk (by kernel_rfl) | (exfalso; simp only [decide_eq_true_eq, decide_eq_false_iff_not, ite_lt_, lt_ite_, gt_iff_lt, ge_iff_le] at *; omega) | fail)
  all_goals rfl
theorem vNew_f (w0 : World) (X : Nat → Prop) (w h : Int) (hb : 1 ≤ w ∧ 1 ≤ h ∧ w ≤ 64 ∧ h ≤ 64) : Cf Tryz.prog 26 [ip w, ip h] w0 X [] (ι := Nat × Nat × Nat × Nat) (fun i => ptr i.1)
    (fun i => [structP 140 i.1 (cVw w h 0 0 0 i.2.1 i.2.2.2 0), structP 189 i.2.1 (cCa i.2.2.1 none 0 0), mapP i.2.2.1 vKy eIm [] 0]) (fun i => DocE i.2.2.2) := by
  refine cf_of_ev TT_ok mix Tryz.func26 (by kernel_rfl) rfl fun M hM => ?_
  repeat' ((conv => whnf); first | (exfalso; simp only [decide_eq_true_eq, decide_eq_false_iff_not, ite_lt_, lt_ite_, gt_iff_lt, ge_iff_le] at *; omega) | refine And.intro ?_ ?_ | intro _ | refine ret_q ?_ | exact RegOK.mk (by kernel_rfl) | (refine call_n (fun w' X' _ hl => tileNew_f w' X') ?_; intro ⟨c, r⟩ w1 E1 _ l1) | (refine call_n (fun w' X' _ hl => docNew_f w' X') ?_; intro d w2 E2 hd l2) | (refine ret_t (_, _, _, _) 0 [_, _] rfl rfl rfl rfl rfl rfl fun w' E' hl rel => Pv.go ?_) | fail)
  all_goals exact ⟨stb_later hl _ hd⟩
theorem PanBad_f (w0 : World) (X : Nat → Prop) (v : Nat) (w h px py z : Int) (c d : Nat) (n x y : Int) (hb : x < -1048576 ∨ y < -1048576 ∨ 1048576 < x ∨ 1048576 < y) : Cf Tryz.prog 27 [ptr v, ip x, ip y] w0 X [structP 140 v (cVw w h px py z c d n)] (ι := Unit) (fun _ => ip 30)
    (fun _ => [structP 140 v (cVw w h px py z c d n)]) (fun _ _ _ => True) := by
  refine cf_of_evt TT_ok mix Tryz.func27 (by kernel_rfl) rfl [.one (.p 0 0), ofVal (ip x), ofVal (ip y)] (by first | exact ⟨rfl, trivial⟩ | exact ⟨rfl, ofVal_R _ _, trivial⟩ | exact ⟨rfl, ofVal_R _ _, ofVal_R _ _, trivial⟩ | exact ⟨rfl, ofVal_R _ _, ofVal_R _ _, ofVal_R _ _, trivial⟩ | exact ⟨rfl, rfl, trivial⟩ | exact ⟨rfl, rfl, rfl, trivial⟩ | (simp [TR, AV.R, Lf.R, LR]; done)) fun M hX => ?_
  repeat' ((conv => whnf); first | (exfalso; simp only [decide_eq_true_eq, decide_eq_false_iff_not, ite_lt_, lt_ite_, gt_iff_lt, ge_iff_le] at *; omega) | refine And.intro ?_ ?_ | intro _ | refine ret_q ?_ | exact RegOK.mk (by kernel_rfl) | (refine ret_t (()) 0 [] rfl rfl rfl rfl rfl rfl fun w' E' hl rel => Pv.go ?_) | fail)
  all_goals exact ⟨trivial⟩
theorem Pan_f (w0 : World) (X : Nat → Prop) (v : Nat) (w h px py z : Int) (c d : Nat) (n x y : Int) (hb : -1048576 ≤ x ∧ -1048576 ≤ y ∧ x ≤ 1048576 ∧ y ≤ 1048576) : Cf Tryz.prog 27 [ptr v, ip x, ip y] w0 X [structP 140 v (cVw w h px py z c d n)] (ι := Unit) (fun _ => ip 0)
    (fun _ => [structP 140 v (cVw w h x y z c d n)]) (fun _ _ _ => True) := by
  refine cf_of_evt TT_ok mix Tryz.func27 (by kernel_rfl) rfl [.one (.p 0 0), ofVal (ip x), ofVal (ip y)] (by first | exact ⟨rfl, trivial⟩ | exact ⟨rfl, ofVal_R _ _, trivial⟩ | exact ⟨rfl, ofVal_R _ _, ofVal_R _ _, trivial⟩ | exact ⟨rfl, ofVal_R _ _, ofVal_R _ _, ofVal_R _ _, trivial⟩ | exact ⟨rfl, rfl, trivial⟩ | exact ⟨rfl, rfl, rfl, trivial⟩ | (simp [TR, AV.R, Lf.R, LR]; done)) fun M hX => ?_
  repeat' ((conv => whnf); first | (exfalso; simp only [decide_eq_true_eq, decide_eq_false_iff_not, ite_lt_, lt_ite_, gt_iff_lt, ge_iff_le] at *; omega) | refine And.intro ?_ ?_ | intro _ | refine ret_q ?_ | exact RegOK.mk (by kernel_rfl) | (refine ret_t (()) 0 [] rfl rfl rfl rfl rfl rfl fun w' E' hl rel => Pv.go ?_) | fail)
  all_goals exact ⟨trivial⟩
theorem ZoomBad_f (w0 : World) (X : Nat → Prop) (v : Nat) (w h px py z0 : Int) (c d : Nat) (n : Int) (z : Int) (hz : z < -4 ∨ 4 < z) : Cf Tryz.prog 28 [ptr v, ip z] w0 X [structP 140 v (cVw w h px py z0 c d n)] (ι := Unit) (fun _ => ip 30) (fun _ => [structP 140 v (cVw w h px py z0 c d n)]) (fun _ _ _ => True) := by
  refine cf_of_evt TT_ok mix Tryz.func28 (by kernel_rfl) rfl [.one (.p 0 0), ofVal (ip z)] (by first | exact ⟨rfl, trivial⟩ | exact ⟨rfl, ofVal_R _ _, trivial⟩ | exact ⟨rfl, ofVal_R _ _, ofVal_R _ _, trivial⟩ | exact ⟨rfl, ofVal_R _ _, ofVal_R _ _, ofVal_R _ _, trivial⟩ | exact ⟨rfl, rfl, trivial⟩ | exact ⟨rfl, rfl, rfl, trivial⟩ | (simp [TR, AV.R, Lf.R, LR]; done)) fun M hX => ?_
  repeat' ((conv => whnf); first | (exfalso; simp only [decide_eq_true_eq, decide_eq_false_iff_not, ite_lt_, lt_ite_, gt_iff_lt, ge_iff_le] at *; omega) | refine And.intro ?_ ?_ | intro _ | refine ret_q ?_ | exact RegOK.mk (by kernel_rfl) | (refine ret_t (()) 0 [] rfl rfl rfl rfl rfl rfl fun w' E' hl rel => Pv.go ?_) | fail)
  all_goals exact ⟨trivial⟩
theorem ZoomSame_f (w0 : World) (X : Nat → Prop) (v : Nat) (w h px py z : Int) (c d : Nat) (n : Int) (hz : -4 ≤ z ∧ z ≤ 4) : Cf Tryz.prog 28 [ptr v, ip z] w0 X [structP 140 v (cVw w h px py z c d n)] (ι := Unit) (fun _ => ip 0) (fun _ => [structP 140 v (cVw w h px py z c d n)]) (fun _ _ _ => True) := by
  refine cf_of_evt TT_ok mix Tryz.func28 (by kernel_rfl) rfl [.one (.p 0 0), ofVal (ip z)] (by first | exact ⟨rfl, trivial⟩ | exact ⟨rfl, ofVal_R _ _, trivial⟩ | exact ⟨rfl, ofVal_R _ _, ofVal_R _ _, trivial⟩ | exact ⟨rfl, ofVal_R _ _, ofVal_R _ _, ofVal_R _ _, trivial⟩ | exact ⟨rfl, rfl, trivial⟩ | exact ⟨rfl, rfl, rfl, trivial⟩ | (simp [TR, AV.R, Lf.R, LR]; done)) fun M hX => ?_
  repeat' ((conv => whnf); first | (exfalso; simp only [decide_eq_true_eq, decide_eq_false_iff_not, ite_lt_, lt_ite_, gt_iff_lt, ge_iff_le] at *; omega) | (exfalso; simp at *; done) | refine And.intro ?_ ?_ | intro _ | refine ret_q ?_ | exact RegOK.mk (by kernel_rfl) | (refine ret_t (()) 0 [] rfl rfl rfl rfl rfl rfl fun w' E' hl rel => Pv.go ?_) | fail)
  all_goals exact ⟨trivial⟩
theorem ZoomOther_f (w0 : World) (X : Nat → Prop) (v : Nat) (w h px py z0 : Int) (c d : Nat) (n : Int) (r : Nat) (b : Option Addr) (k cap : Nat) (kvs : List (Ky × Im × Nat)) (clock : Nat) (z : Int) (hz : -4 ≤ z ∧ z ≤ 4) (hne : z ≠ z0) :
    Cf Tryz.prog 28 [ptr v, ip z] w0 X [structP 140 v (cVw w h px py z0 c d n), structP 189 c (cCa r b k cap), mapP r vKy eIm kvs clock] (ι := Unit) (fun _ => ip 0)
      (fun _ => [structP 140 v (cVw w h px py z c d n), structP 189 c (cCa r none 0 0), mapP r vKy eIm [] clock]) (fun _ _ _ => True) := by
  refine cf_of_evt TT_ok mix Tryz.func28 (by kernel_rfl) rfl [.one (.p 0 0), ofVal (ip z)] (by first | exact ⟨rfl, trivial⟩ | exact ⟨rfl, ofVal_R _ _, trivial⟩ | exact ⟨rfl, ofVal_R _ _, ofVal_R _ _, trivial⟩ | exact ⟨rfl, ofVal_R _ _, ofVal_R _ _, ofVal_R _ _, trivial⟩ | exact ⟨rfl, rfl, trivial⟩ | exact ⟨rfl, rfl, rfl, trivial⟩ | (simp [TR, AV.R, Lf.R, LR]; done)) fun M hX => ?_
  repeat' ((conv => whnf); first | (exfalso; simp only [decide_eq_true_eq, decide_eq_false_iff_not, ite_lt_, lt_ite_, gt_iff_lt, ge_iff_le] at *; omega) | (exfalso; simp_all; done) | refine And.intro ?_ ?_ | intro _ | refine ret_q ?_ | exact RegOK.mk (by kernel_rfl) | (refine call_f [structP 189 c (cCa r b k cap), mapP r vKy eIm kvs clock] rfl (fun w' X' _ hl => Clear_f w' X' c r b k cap kvs clock) (.inl rfl) ?_; intro _ w1 E1 _ l1) | (refine ret_t (()) 0 [_, _] rfl rfl rfl rfl rfl rfl fun w' E' hl rel => Pv.go ?_) | fail)
  all_goals exact ⟨trivial⟩
theorem rd_st {W : World} {E : Nat → Prop} {ns : List Nat} {hs : List HB} {os : List OP} {tm : List AV} (i : Nat) {t n j : Nat} {cs ds : List Value} (hi : os[i]? = some (structP t n cs)) (hd : (cs.drop j).take ds.length = ds) : RdAt ⟨W, E, ns, hs, os, tm⟩ ⟨n, j, none⟩ ds :=
  ⟨fun C w hm q v hj => by
    obtain ⟨fp, ho⟩ := hm.osc
    have hc : w.heap[n]? = some (.cells cs.toArray t (0, 0)) := (ho i _ hi).1.2
    rw [add_zero_off]
    unfold World.cell?
    simp only [hc]
    rw [← hd, List.getElem?_take] at hj
    split at hj
    · rw [List.getElem?_drop] at hj; simpa using hj
    · cases hj⟩
def VwD (v : Nat) (w h px py z : Int) (c d : Nat) (n : Int) (W : World) (E : Nat → Prop) : Prop := Dat W E ⟨v, 0, none⟩ (cVw w h px py z c d n)
theorem Window_r (w0 : World) (v : Nat) (w h px py z : Int) (c d : Nat) (n x1 y1 : Int) (hx : IntKind.i64.wrap (px + w) = x1) (hy : IntKind.i64.wrap (py + h) = y1) (hv : VwD v w h px py z c d n w0 NoE) : Cr Tryz.prog 104 [ptr v] w0 (vBx ⟨px, py, x1, y1⟩) := by
  subst hx; subst hy
  refine cr_of_ev TT_ok mix Tryz.func104 (by kernel_rfl) rfl ?_
  repeat' ((conv => whnf); first | refine And.intro ?_ ?_ | intro _ | refine ret_q ?_ | exact RegOK.mk (by kernel_rfl) | (refine ⟨_, Dat.rdAt (a := ⟨v, 0, none⟩) hv 0 rfl, ?_⟩) | (refine ⟨_, Dat.rdAt (a := ⟨v, 0, none⟩) hv 1 rfl, ?_⟩) | (refine ⟨_, Dat.rdAt (a := ⟨v, 0, none⟩) hv 2 rfl, ?_⟩) | (refine ⟨_, Dat.rdAt (a := ⟨v, 0, none⟩) hv 3 rfl, ?_⟩) | fail)
  rfl
theorem Matrix_r (w0 : World) (v : Nat) (w h px py : Int) (c d : Nat) (n : Int) (hv : VwD v w h px py 0 c d n w0 NoE) : Cr Tryz.prog 102 [ptr v] w0 (vMx ⟨65536, 0, 0, 65536, 0, 0⟩) := by
  refine cr_of_ev TT_ok mix Tryz.func102 (by kernel_rfl) rfl ?_
  repeat' ((conv => whnf); first | (exact Int.NonNeg.mk 16) | refine And.intro ?_ ?_ | intro _ | refine ret_q ?_ | exact RegOK.mk (by kernel_rfl) | (refine ⟨_, Dat.rdAt (a := ⟨v, 0, none⟩) hv 4 rfl, ?_⟩) | refine call_q (Scale_q _ _) ?_ | fail)
  rfl
theorem Drawn_r (w0 : World) (v : Nat) (w h px py z : Int) (c d : Nat) (n : Int) (hv : VwD v w h px py z c d n w0 NoE) : Cr Tryz.prog 67 [ptr v] w0 (ip n) := by
  refine cr_of_ev TT_ok mix Tryz.func67 (by kernel_rfl) rfl ?_
  repeat' ((conv => whnf); first | refine And.intro ?_ ?_ | intro _ | refine ret_q ?_ | exact RegOK.mk (by kernel_rfl) | (refine ⟨_, Dat.rdAt (a := ⟨v, 0, none⟩) hv 7 rfl, ?_⟩) | fail)
  rfl
theorem AtBad_r (w0 : World) (v : Nat) (w h px py z : Int) (c d : Nat) (n : Int) (x y : Int) (hb : x < 0 ∨ y < 0 ∨ w ≤ x ∨ h ≤ y) (hv : VwD v w h px py z c d n w0 NoE) : Cr Tryz.prog 30 [ptr v, ip x, ip y] w0 (.tuple #[vPt ⟨0, 0⟩, .bool false]) := by
  refine cr_of_ev TT_ok mix Tryz.func30 (by kernel_rfl) rfl ?_
  repeat' ((conv => whnf); first | (exfalso; simp only [decide_eq_true_eq, decide_eq_false_iff_not, ite_lt_, lt_ite_, gt_iff_lt, ge_iff_le] at *; omega) | refine And.intro ?_ ?_ | intro _ | refine ret_q ?_ | exact RegOK.mk (by kernel_rfl) | (refine ⟨_, Dat.rdAt (a := ⟨v, 0, none⟩) hv 0 rfl, ?_⟩) | (refine ⟨_, Dat.rdAt (a := ⟨v, 0, none⟩) hv 1 rfl, ?_⟩) | fail)
  all_goals rfl
def atN (p z : Int) : Int := let n := W (W (p * 256) + 128); if z < 0 then W (n * 2 ^ min (W (0 - z)).toNat IntKind.i64.bits) else sr n z
theorem At_r (w0 : World) (v : Nat) (w h px py z : Int) (c d : Nat) (n : Int) (x y : Int) (hb : 0 ≤ x ∧ 0 ≤ y ∧ x < w ∧ y < h) (hz : -4 ≤ z ∧ z ≤ 4) (hv : VwD v w h px py z c d n w0 NoE) : Cr Tryz.prog 30 [ptr v, ip x, ip y] w0 (.tuple #[vPt ⟨atN (W (px + x)) z, atN (W (py + y)) z⟩, .bool true]) := by
  refine cr_of_ev TT_ok mix Tryz.func30 (by kernel_rfl) rfl ?_
  repeat' ((conv => whnf); first | (exfalso; simp only [decide_eq_true_eq, decide_eq_false_iff_not, ite_lt_, lt_ite_, gt_iff_lt, ge_iff_le] at *; omega) | refine And.intro ?_ ?_ | intro _ | refine ret_q ?_ | exact RegOK.mk (by kernel_rfl) | (show (0 : Int) ≤ _; simp only [decide_eq_true_eq, decide_eq_false_iff_not] at *; first | omega | (rw [i64_id (by omega)]; omega)) | (refine ⟨_, Dat.rdAt (a := ⟨v, 0, none⟩) hv 0 rfl, ?_⟩) | (refine ⟨_, Dat.rdAt (a := ⟨v, 0, none⟩) hv 1 rfl, ?_⟩) | (refine ⟨_, Dat.rdAt (a := ⟨v, 0, none⟩) hv 2 rfl, ?_⟩) | (refine ⟨_, Dat.rdAt (a := ⟨v, 0, none⟩) hv 3 rfl, ?_⟩) | (refine ⟨_, Dat.rdAt (a := ⟨v, 0, none⟩) hv 4 rfl, ?_⟩) | fail)
  · have e : z < 0 := of_decide_eq_true ‹_›
    simp only [atN, if_pos e]
  · have e : ¬ z < 0 := of_decide_eq_false ‹_›
    simp only [atN, if_neg e]
theorem Power_q (n : Int) (h : 0 ≤ n ∧ n ≤ 4) : Cq Tryz.prog 68 [ip n] (ip (2 ^ n.toNat)) := by
  have : n = 0 ∨ n = 1 ∨ n = 2 ∨ n = 3 ∨ n = 4 := by omega
  rcases this with rfl | rfl | rfl | rfl | rfl
  all_goals
    refine cq_of_ev TT_ok mix Tryz.func68 (by kernel_rfl) rfl fun w => ?_
    repeat' ((conv => whnf); first | refine And.intro ?_ ?_ | intro _ | refine ret_q ?_ | exact RegOK.mk (by kernel_rfl) | fail)
    refine loop_rounds TT_ok mix 5 ?_
    repeat' ((conv => whnf); first | (intro h; first | exact absurd h (by decide) | exact Bool.noConfusion h) | refine And.intro ?_ ?_ | intro _ | refine ret_q ?_ | exact RegOK.mk (by kernel_rfl) | (exfalso; done) | fail)
    try rfl
def belowN (n d : Int) : Int := if W (W (n.tdiv d) * d) > n then W (W (n.tdiv d) - 1) else W (n.tdiv d)
theorem Below_q (n d : Int) (hd : 0 < d) : Cq Tryz.prog 69 [ip n, ip d] (ip (belowN n d)) := by
  refine cq_of_ev TT_ok mix Tryz.func69 (by kernel_rfl) rfl fun w => ?_
  repeat' ((conv => whnf); first | refine And.intro ?_ ?_ | intro _ | refine ret_q ?_ | exact RegOK.mk (by kernel_rfl) | fail)
  · omega
  · have e : W (W (n.tdiv d) * d) > n := of_decide_eq_true ‹_›
    simp only [belowN, if_pos e]
  · have e : ¬ W (W (n.tdiv d) * d) > n := of_decide_eq_false ‹_›
    simp only [belowN, if_neg e]
def refAt (p z : Int) : Int := if z < 0 then W (W (W (256 * p) + 128) * 2 ^ (W (0 - z)).toNat) else belowN (W (W (256 * p) + 128)) (2 ^ z.toNat)
theorem RefAt_q (p z : Int) (hz : -4 ≤ z ∧ z ≤ 4) : Cq Tryz.prog 31 [ip p, ip z] (ip (refAt p z)) := by
  by_cases h0 : z < 0
  · have hp : 0 ≤ IntKind.i64.wrap (0 - z) ∧ IntKind.i64.wrap (0 - z) ≤ 4 := by rw [i64_id (by omega)]; omega
    refine cq_of_ev TT_ok mix Tryz.func31 (by kernel_rfl) rfl fun w => ?_
    repeat' ((conv => whnf); first | (exfalso; simp only [decide_eq_true_eq, decide_eq_false_iff_not, ite_lt_, lt_ite_, gt_iff_lt, ge_iff_le] at *; omega) | refine And.intro ?_ ?_ | intro _ | refine ret_q ?_ | exact RegOK.mk (by kernel_rfl) | refine call_q (Power_q _ hp) ?_ | fail)
    simp only [refAt, if_pos h0]
  · have hp : 0 ≤ z ∧ z ≤ 4 := by omega
    have h2 : (0 : Int) < 2 ^ z.toNat := Int.pow_pos (by decide)
    refine cq_of_ev TT_ok mix Tryz.func31 (by kernel_rfl) rfl fun w => ?_
    repeat' ((conv => whnf); first | (exfalso; simp only [decide_eq_true_eq, decide_eq_false_iff_not, ite_lt_, lt_ite_, gt_iff_lt, ge_iff_le] at *; omega) | refine And.intro ?_ ?_ | intro _ | refine ret_q ?_ | exact RegOK.mk (by kernel_rfl) | refine call_q (Power_q _ hp) ?_ | refine call_q (Below_q _ _ h2) ?_ | fail)
    simp only [refAt, if_neg h0]
theorem below1 (n : Int) (hn : -600000000 ≤ n ∧ n ≤ 600000000) : belowN n 1 = n / 1 := by
  unfold belowN
  rw [Int.tdiv_eq_ediv, show Int.sign 1 = 1 from rfl]
  by_cases h : 0 ≤ n ∨ (1 : Int) ∣ n
  · rw [if_pos h, show W (n / 1 + 0) = n / 1 + 0 from i64_id (by omega), show W ((n / 1 + 0) * 1) = (n / 1 + 0) * 1 from i64_id (by omega)]
    split <;> omega
  · rw [if_neg h, show W (n / 1 + 1) = n / 1 + 1 from i64_id (by omega), show W ((n / 1 + 1) * 1) = (n / 1 + 1) * 1 from i64_id (by omega), show W (n / 1 + 1 - 1) = n / 1 + 1 - 1 from i64_id (by omega)]
    split <;> omega
theorem below2 (n : Int) (hn : -600000000 ≤ n ∧ n ≤ 600000000) : belowN n 2 = n / 2 := by
  unfold belowN
  rw [Int.tdiv_eq_ediv, show Int.sign 2 = 1 from rfl]
  by_cases h : 0 ≤ n ∨ (2 : Int) ∣ n
  · rw [if_pos h, show W (n / 2 + 0) = n / 2 + 0 from i64_id (by omega), show W ((n / 2 + 0) * 2) = (n / 2 + 0) * 2 from i64_id (by omega)]
    split <;> omega
  · rw [if_neg h, show W (n / 2 + 1) = n / 2 + 1 from i64_id (by omega), show W ((n / 2 + 1) * 2) = (n / 2 + 1) * 2 from i64_id (by omega), show W (n / 2 + 1 - 1) = n / 2 + 1 - 1 from i64_id (by omega)]
    split <;> omega
theorem below4 (n : Int) (hn : -600000000 ≤ n ∧ n ≤ 600000000) : belowN n 4 = n / 4 := by
  unfold belowN
  rw [Int.tdiv_eq_ediv, show Int.sign 4 = 1 from rfl]
  by_cases h : 0 ≤ n ∨ (4 : Int) ∣ n
  · rw [if_pos h, show W (n / 4 + 0) = n / 4 + 0 from i64_id (by omega), show W ((n / 4 + 0) * 4) = (n / 4 + 0) * 4 from i64_id (by omega)]
    split <;> omega
  · rw [if_neg h, show W (n / 4 + 1) = n / 4 + 1 from i64_id (by omega), show W ((n / 4 + 1) * 4) = (n / 4 + 1) * 4 from i64_id (by omega), show W (n / 4 + 1 - 1) = n / 4 + 1 - 1 from i64_id (by omega)]
    split <;> omega
theorem below8 (n : Int) (hn : -600000000 ≤ n ∧ n ≤ 600000000) : belowN n 8 = n / 8 := by
  unfold belowN
  rw [Int.tdiv_eq_ediv, show Int.sign 8 = 1 from rfl]
  by_cases h : 0 ≤ n ∨ (8 : Int) ∣ n
  · rw [if_pos h, show W (n / 8 + 0) = n / 8 + 0 from i64_id (by omega), show W ((n / 8 + 0) * 8) = (n / 8 + 0) * 8 from i64_id (by omega)]
    split <;> omega
  · rw [if_neg h, show W (n / 8 + 1) = n / 8 + 1 from i64_id (by omega), show W ((n / 8 + 1) * 8) = (n / 8 + 1) * 8 from i64_id (by omega), show W (n / 8 + 1 - 1) = n / 8 + 1 - 1 from i64_id (by omega)]
    split <;> omega
theorem below16 (n : Int) (hn : -600000000 ≤ n ∧ n ≤ 600000000) : belowN n 16 = n / 16 := by
  unfold belowN
  rw [Int.tdiv_eq_ediv, show Int.sign 16 = 1 from rfl]
  by_cases h : 0 ≤ n ∨ (16 : Int) ∣ n
  · rw [if_pos h, show W (n / 16 + 0) = n / 16 + 0 from i64_id (by omega), show W ((n / 16 + 0) * 16) = (n / 16 + 0) * 16 from i64_id (by omega)]
    split <;> omega
  · rw [if_neg h, show W (n / 16 + 1) = n / 16 + 1 from i64_id (by omega), show W ((n / 16 + 1) * 16) = (n / 16 + 1) * 16 from i64_id (by omega), show W (n / 16 + 1 - 1) = n / 16 + 1 - 1 from i64_id (by omega)]
    split <;> omega
theorem at_ref (p z : Int) (hz : -4 ≤ z ∧ z ≤ 4) (hp : -2000000 ≤ p ∧ p ≤ 2000000) : atN p z = refAt p z := by
  have h1 : W (p * 256) = p * 256 := i64_id (by omega)
  have h2 : W (256 * p) = p * 256 := by rw [show 256 * p = p * 256 by omega]; exact h1
  have h3 : W (p * 256 + 128) = p * 256 + 128 := i64_id (by omega)
  simp only [atN, refAt, h1, h2, h3]
  split
  · rw [show (W (0 - z)) = 0 - z from i64_id (by omega)]
    rw [Nat.min_eq_left (by have : IntKind.i64.bits = 64 := rfl; omega)]
  · have hk : z = 0 ∨ z = 1 ∨ z = 2 ∨ z = 3 ∨ z = 4 := by omega
    rcases hk with rfl | rfl | rfl | rfl | rfl
    all_goals
      obtain ⟨n, hn⟩ : ∃ n, p * 256 + 128 = n := ⟨_, rfl⟩
      rw [hn]
      unfold sr
      rw [Int.fdiv_eq_ediv_of_nonneg _ (by decide)]
    · exact (below1 n (by omega)).symm
    · exact (below2 n (by omega)).symm
    · exact (below4 n (by omega)).symm
    · exact (below8 n (by omega)).symm
    · exact (below16 n (by omega)).symm
end Go.Ev

