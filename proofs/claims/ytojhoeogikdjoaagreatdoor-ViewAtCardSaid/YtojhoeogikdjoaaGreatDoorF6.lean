/- Contracts of single functions: drawings without nodes; conditions: none. -/
import Derived.Test.YtojhoeogikdjoaaGreatDoorF5
set_option linter.unusedSimpArgs false
set_option linter.unusedVariables false
set_option maxRecDepth 10000
namespace Go.Ev
open Go.Proofs Go.RowKit

theorem mapsClone_calls (b : Nat) (es : Array MapEntry) (clock : Nat) (w : World) (hb : w.heap[b]? = some (.map es clock)) :
    Calls Tryz.prog 144 #[.map (some b)] w fun e w' => e = .returned (.map (some w.heap.size)) ∧ w' = w.alloc (.map es clock) := by
  have hu : Tryz.prog.underlying 105 = some (.map 3 76) := by kernel_rfl
  have hq := fun w => run_eql_map_nil_sl (P := Tryz.prog) w 105 _ _ (some b) hu
  go_enter Tryz.func144, Tryz.ntmps144
  go_wp2
  rw [run_callFunc_extern Tryz.func194 (by kernel_rfl) (by kernel_rfl) (by kernel_rfl) (e := Extern.MapsClone.clone) (by kernel_rfl), run_maps_clone_sl w 105 hb]
  simp only [Result.andThen]
  rw [Oper.upon_value]
  go_wp2
  rw [run_typeAssert_map_sl _ 105 20 _ _ _ hu]
  simp only [Result.andThen]
  rw [Oper.upon_value]
  go_wp2
  go_ret
  exact ⟨rfl, rfl⟩
theorem mapsClone_f (w : World) (X : Nat → Prop) {V : Type} (r : Nat) (ev : V → Value) (kvs : List (Int × V × Nat)) (clock : Nat) (h : MapD r ekI ev kvs clock w X) :
    Cf Tryz.prog 144 [.map (some r)] w X [] (fun n => .map (some n)) (fun n => [mapP n ekI ev kvs clock]) (fun _ _ _ => True) := by
  refine ⟨fun fp _ => ?_⟩
  refine ⟨callFunc_enter Tryz.func144 (by kernel_rfl) rfl _, Calls.mono (mapsClone_calls r _ clock w h.at_.at_) ?_⟩
  rintro e w' ⟨rfl, rfl⟩
  refine ⟨_, rfl, w.heap.size, fun _ b => b = w.heap.size, rfl, gl_of_below ((Below.refl _ w).alloc (Nat.le_refl _) _), fun i o hi => ?_, trivial⟩
  have hsz : (w.alloc (.map (ents ekI ev kvs).toArray clock)).heap.size = w.heap.size + 1 := by show (w.heap.push _).size = _; rw [Array.size_push]
  cases i with
  | zero =>
    simp at hi; subst hi
    refine ⟨⟨?_, fun h => h, rfl, h.at_.nodup, h.at_.born, h.at_.stamps⟩, fun b hb => ?_⟩
    · show (w.heap.push _)[_]? = _
      simp
    · have hb : b = w.heap.size := hb
      subst hb
      exact ⟨by omega, .inr (Nat.le_refl _), fun j hj hl => by simp at hl; omega⟩
  | succ i => simp at hi

/-- A drawing without nodes. -/
structure DocE (d : Nat) (W : World) (E : Nat → Prop) : Prop where
  ex : ∃ p r clock, Dat W E ⟨d, 0, none⟩ [ptr p, .map (some r), ip 0] ∧ TreeE p W E ∧ MapD r ekI (fun v : Value => v) [] clock W E
instance (p : Nat) : Stb (DocE p) := ⟨fun h hl => by
  obtain ⟨p, r, clock, h1, h2, h3⟩ := h
  exact ⟨p, r, clock, h1.mv hl, stb_later hl _ h2, stb_later hl _ h3⟩⟩
theorem docNew_f (w : World) (X : Nat → Prop) : Cf Tryz.prog 64 [] w X [] ptr (fun _ => []) DocE := by
  refine cf_of_ev TT_ok mix Tryz.func64 (by kernel_rfl) rfl fun M hM => ?_
  repeat' ((conv => whnf); first | refine And.intro ?_ ?_ | intro _ | refine ret_q ?_ | exact RegOK.mk (by kernel_rfl) | (refine call_n (fun w' X' _ hl => treeNew_f w' X') ?_; intro p w1 E1 ht l1) | (refine r_makeMap ekI (fun v : Value => v) ?_) | (refine ret_f (_) rfl rfl fun w' E' hl rel => Pv.go ?_) | fail)
  exact ⟨_, _, _, rel.dat (hM rfl) 0 rfl rfl rfl, stb_later hl _ ht, rel.map (hM rfl) 0 rfl⟩
theorem docTree_f (w : World) (X : Nat → Prop) (d : Nat) (h : DocE d w X) : Cf Tryz.prog 9 [ptr d] w X [] ptr (fun _ => []) TreeE := by
  obtain ⟨p, r, clock, h1, h2, h3⟩ := stE h
  refine cf_of_ev TT_ok mix Tryz.func9 (by kernel_rfl) rfl fun M hM => ?_
  repeat' ((conv => whnf); first | refine And.intro ?_ ?_ | intro _ | refine ret_q ?_ | exact RegOK.mk (by kernel_rfl) | (refine ⟨_, h1.rdAt 0 rfl, ?_⟩) | (refine call_n (fun w' X' _ hl => treeCopy_f w' X' p (stb_later hl _ h2)) ?_; intro p w1 E1 ht l1) | (refine ret_f (_) rfl rfl fun w' E' hl rel => Pv.go ?_) | fail)
  exact ⟨stb_later hl _ ht⟩
theorem docCopy_f (w : World) (X : Nat → Prop) (d : Nat) (h : DocE d w X) : Cf Tryz.prog 103 [ptr d] w X [] ptr (fun _ => []) DocE := by
  obtain ⟨p, r, clock, h1, h2, h3⟩ := stE h
  refine cf_of_ev TT_ok mix Tryz.func103 (by kernel_rfl) rfl fun M hM => ?_
  repeat' ((conv => whnf); first | refine And.intro ?_ ?_ | intro _ | refine ret_q ?_ | exact RegOK.mk (by kernel_rfl) | (refine ⟨_, Dat.rdAt (a := ⟨d, 0, none⟩) (cs := [ptr p, .map (some r), ip 0]) (by repeat (first | assumption | refine Dat.mv ?_ (by assumption) | refine stb_later (by assumption) _ ?_)) 0 rfl, ?_⟩) | (refine ⟨_, Dat.rdAt (a := ⟨d, 0, none⟩) (cs := [ptr p, .map (some r), ip 0]) (by repeat (first | assumption | refine Dat.mv ?_ (by assumption) | refine stb_later (by assumption) _ ?_)) 1 rfl, ?_⟩) | (refine ⟨_, Dat.rdAt (a := ⟨d, 0, none⟩) (cs := [ptr p, .map (some r), ip 0]) (by repeat (first | assumption | refine Dat.mv ?_ (by assumption) | refine stb_later (by assumption) _ ?_)) 2 rfl, ?_⟩) | (refine call_n (fun w' X' _ hl => treeCopy_f w' X' p (stb_later hl _ h2)) ?_; intro q w1 E1 ht l1) | (refine call_n (fun w' X' _ hl => mapsClone_f w' X' r (fun v : Value => v) [] clock (stb_later hl _ (by repeat (first | assumption | refine Dat.mv ?_ (by assumption) | refine stb_later (by assumption) _ ?_)))) ?_; intro mr w2 E2 _ l2) | (refine ret_f (_) rfl rfl fun w' E' hl rel => Pv.go ?_) | fail)
  exact ⟨_, _, _, rel.dat (hM rfl) 0 rfl rfl rfl, stb_later hl _ (stb_later l2 _ ht), rel.map (hM rfl) 0 rfl⟩
theorem leaves_q (d : Nat) : Cq Tryz.prog 189 [ptr d, node0, sl0] sl0 := by
  refine cq_of_ev TT_ok mix Tryz.func189 (by kernel_rfl) rfl fun w => ?_
  repeat' ((conv => whnf); first | refine And.intro ?_ ?_ | intro _ | refine ret_q ?_ | exact RegOK.mk (by kernel_rfl) | fail)
  refine loop_rounds TT_ok mix 1 ?_
  repeat' ((conv => whnf); first | (intro h; first | exact absurd h (by decide) | exact Bool.noConfusion h) | refine And.intro ?_ ?_ | intro _ | refine ret_q ?_ | exact RegOK.mk (by kernel_rfl) | (exfalso; done) | fail)
  rfl
theorem all_r (w : World) (d : Nat) (h : DocE d w NoE) : Cr Tryz.prog 141 [ptr d] w sl0 := by
  refine cr_of_ev TT_ok mix Tryz.func141 (by kernel_rfl) rfl ?_
  repeat' ((conv => whnf); first | refine And.intro ?_ ?_ | intro _ | refine ret_q ?_ | exact RegOK.mk (by kernel_rfl) | (refine call_n (fun w' X' _ hl => docTree_f w' X' d (stb_later hl _ h)) ?_; intro p w1 E1 ht l1) | (refine call_c (fun w' _ hl => Node_r w' p (stb_later hl _ ht)) ?_) | refine call_q (leaves_q _) ?_ | fail)
  rfl
theorem reach_q (d : Nat) (a b c e f g : Int) : Cq Tryz.prog 143 [ptr d, sl0, .agg #[ip a, ip b, ip c, ip e, ip f, ip g]] (vBx ⟨0, 0, 0, 0⟩) := by
  refine cq_of_ev TT_ok mix Tryz.func143 (by kernel_rfl) rfl fun w => ?_
  repeat' ((conv => whnf); first | refine And.intro ?_ ?_ | intro _ | refine ret_q ?_ | exact RegOK.mk (by kernel_rfl) | fail)
  refine loop_rounds TT_ok mix 1 ?_
  repeat' ((conv => whnf); first | (intro h; first | exact absurd h (by decide) | exact Bool.noConfusion h) | refine And.intro ?_ ?_ | intro _ | refine ret_q ?_ | exact RegOK.mk (by kernel_rfl) | (exfalso; done) | fail)
  rfl
set_option maxHeartbeats 2000000 in
theorem Damage_r (w : World) (d d' : Nat) (a b c e f g : Int) (h : DocE d w NoE) (h' : DocE d' w NoE) : Cr Tryz.prog 101 [ptr d, ptr d', .agg #[ip a, ip b, ip c, ip e, ip f, ip g]] w (vBx ⟨0, 0, 0, 0⟩) := by
  refine cr_of_ev TT_ok mix Tryz.func101 (by kernel_rfl) rfl ?_
  repeat' ((conv => whnf); first | refine And.intro ?_ ?_ | intro _ | refine ret_q ?_ | exact RegOK.mk (by kernel_rfl) | (refine call_c (fun w' _ hl => all_r w' d (stb_later hl _ h)) ?_) | (refine call_c (fun w' _ hl => all_r w' d' (stb_later hl _ h')) ?_) | fail)
  refine loop_rounds TT_ok mix 1 ?_
  repeat' ((conv => whnf); first | (intro h; first | exact absurd h (by decide) | exact Bool.noConfusion h) | refine And.intro ?_ ?_ | intro _ | refine ret_q ?_ | exact RegOK.mk (by kernel_rfl) | (exfalso; done) | fail)
  refine loop_rounds TT_ok mix 1 ?_
  repeat' ((conv => whnf); first | (intro h; first | exact absurd h (by decide) | exact Bool.noConfusion h) | refine And.intro ?_ ?_ | intro _ | refine ret_q ?_ | exact RegOK.mk (by kernel_rfl) | refine call_q (reach_q _ _ _ _ _ _ _) ?_ | refine call_q (Join_q _ _ _ _ _ _ _ _) ?_ | fail)
  rfl
theorem blank_f (w : World) (X : Nat → Prop) (n : Nat) (d : Value) (a b c e : Int) (hd : Dat w X ⟨n, 0, none⟩ [d, ip a, ip b, ip c, ip e]) (hw : sideB (W (c - a)) = true) (hh : sideB (W (e - b)) = true) :
    Cf Tryz.prog 147 [ptr n] w X [] (ι := Nat) (fun n => vIm (W (c - a)) (W (e - b)) (some ⟨n, 0, none⟩) (W (c - a) * W (e - b)).toNat (W (c - a) * W (e - b)).toNat)
      (fun n => [rowP 43 4 (some ⟨n, 0, none⟩) (W (c - a) * W (e - b)).toNat (W (c - a) * W (e - b)).toNat (zeros (W (c - a) * W (e - b)).toNat)]) (fun _ _ _ => (W (c - a) * W (e - b)).toNat ≤ 65536) := by
  have hd := hd.mv (Later.mono w (fun (b : Nat) (hb : X b ∧ b < w.heap.size) => hb.1))
  refine cf_of_ev TT_ok mix Tryz.func147 (by kernel_rfl) rfl fun M hM => ?_
  repeat' ((conv => whnf); first | refine And.intro ?_ ?_ | intro _ | refine ret_q ?_ | exact RegOK.mk (by kernel_rfl) | (refine ⟨_, hd.rdAt 1 rfl, ?_⟩) | (refine ⟨_, hd.rdAt 2 rfl, ?_⟩) | (refine ⟨_, hd.rdAt 3 rfl, ?_⟩) | (refine ⟨_, hd.rdAt 4 rfl, ?_⟩) | (refine call_n (fun w' X' _ hl => imgNew_f w' X' _ _ hw hh) ?_; intro i w1 E1 hi l1) | (refine ret_f (_) rfl rfl fun w' E' hl rel => Pv.go ?_) | fail)
  all_goals exact ⟨hi.1⟩
theorem zeros_eq (n : Nat) : zeros n = (List.replicate n (⟨0, 0, 0, 0⟩ : Co)).flatMap cCo := by
  induction n with
  | zero => rfl
  | succ n ih => rw [List.replicate_succ, List.flatMap_cons, ← ih]; rfl
theorem Draw_f (w : World) (X : Nat → Prop) (d : Nat) (hd : DocE d w X) (a b c e f g : Int) (x0 y0 x1 y1 : Int) (hm : (Mx.mk a b c e f g).right = true) (hs : szOK ⟨x0, y0, x1, y1⟩ = true) (hw : sideB (W (x1 - x0)) = true) (hh : sideB (W (y1 - y0)) = true) (n : Nat) (hn : (W (x1 - x0) * W (y1 - y0)).toNat = n) (u v : Int) (hu : W (x1 - x0) = u) (hv : W (y1 - y0) = v) :
    Cf Tryz.prog 107 [ptr d, vMx ⟨a, b, c, e, f, g⟩, vBx ⟨x0, y0, x1, y1⟩] w X [] (ι := Nat) (fun i => .tuple #[vIm u v (some ⟨i, 0, none⟩) n n, ip 0]) (fun _ => []) (fun i => Sl tyCo (some ⟨i, 0, none⟩) n n (List.replicate n ⟨0, 0, 0, 0⟩)) := by
  subst hn; subst hu; subst hv
  have hd := stE hd
  refine cf_of_ev TT_ok mix Tryz.func107 (by kernel_rfl) rfl fun M hM => ?_
  repeat' ((conv => whnf); first | (intro h; first | exact absurd h (by decide) | exact Bool.noConfusion h) | refine And.intro ?_ ?_ | intro _ | refine ret_q ?_ | exact RegOK.mk (by kernel_rfl) | refine call_q (Size_q _ _ _ _) ?_ | refine call_q (Right_q _ _ _ _ _ _) ?_ | (refine call_rn (fun w' hm' hl => blank_f w' NoE _ _ _ _ _ _ ((rd_tag 3 rfl rfl rfl rfl).dat hm') hw hh) (fun i _ _ h => h) ?_; intro i hi) | (refine call_n (fun w' X' _ hl => docTree_f w' X' d (stb_later hl _ hd)) ?_; intro p w1 E1 ht l1) | (refine call_c (fun w' _ hl => Node_r w' p (stb_later hl _ ht)) ?_) | (exfalso; simp_all; done) | fail)
  refine loop_rounds TT_ok mix 1 ?_
  repeat' ((conv => whnf); first | (intro h; first | exact absurd h (by decide) | exact Bool.noConfusion h) | refine And.intro ?_ ?_ | intro _ | refine ret_q ?_ | exact RegOK.mk (by kernel_rfl) | (refine ret_f (_) rfl rfl fun w' E' hl rel => Pv.go ?_) | fail)
  all_goals
    obtain ⟨F, h1, h2⟩ := rel.own 0 _ rfl (hM rfl)
    rw [zeros_eq] at h1
    exact ⟨Row.slF tyCo cCo (fun _ _ _ => rfl) h1 h2 rfl⟩
end Go.Ev

