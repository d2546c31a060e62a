/- Contracts of single functions: trees with the root alone, drawings without nodes; conditions: none. -/
import Derived.Test.YtojhoeogikdjoaaGreatDoorF4
import Derived.Shelf.SlMaps.Clone
set_option linter.unusedSimpArgs false
set_option linter.unusedVariables false
set_option maxRecDepth 10000
namespace Go.Ev
open Go.Proofs Go.RowKit

abbrev ekI (a : Int) : Value := .int .i64 a
theorem key3 : KeyOK Tryz.prog 3 ekI := keyOK_int (by kernel_rfl)
abbrev sl0 : Value := .slice none 0 0

/-- A tree of the root alone. -/
structure TreeE (p : Nat) (W : World) (E : Nat → Prop) : Prop where
  ex : ∃ cb cc r born clock, 1 ≤ cc ∧ born < clock ∧ Dat W E ⟨p, 0, none⟩ [.slice (some cb) 1 cc, sl0, .map (some r)] ∧ Dat W E cb [ip 0, .bool true, ip (-1), sl0] ∧ MapD r ekI ekI [(0, 0, born)] clock W E
instance (p : Nat) : Stb (TreeE p) := ⟨fun h hl => by
  obtain ⟨cb, cc, r, born, clock, h0, hb, h1, h2, h3⟩ := h
  exact ⟨cb, cc, r, born, clock, h0, hb, h1.mv hl, h2.mv hl, stb_later hl _ h3⟩⟩

theorem treeNew_f (w : World) (X : Nat → Prop) : Cf Tryz.prog 99 [] w X [] ptr (fun _ => []) TreeE := by
  refine cf_of_ev TT_ok mix Tryz.func99 (by kernel_rfl) rfl fun M hM => ?_
  repeat' ((conv => whnf); first | refine And.intro ?_ ?_ | intro _ | refine ret_q ?_ | exact RegOK.mk (by kernel_rfl) | (refine r_makeMap ekI ekI ?_) | (refine r_insert (ek := ekI) (ev := ekI) 0 rfl mt132 key3 0 0 rfl rfl rfl (by simp) ?_) | (refine ret_f (_) rfl rfl fun w' E' hl rel => Pv.go ?_) | fail)
  exact ⟨_, _, _, 0, 1, Nat.le_refl _, by omega, rel.dat (hM rfl) 1 rfl rfl rfl, rel.dat (hM rfl) 0 rfl rfl rfl, rel.map (hM rfl) 0 rfl⟩
theorem find_r (w : World) (p : Nat) (h : TreeE p w NoE) : Cr Tryz.prog 36 [ptr p, ip 0] w (.tuple #[ip 0, .bool true]) := by
  obtain ⟨cb, cc, r, born, clock, h0, hb, h1, h2, h3⟩ := h
  refine cr_of_ev TT_ok mix Tryz.func36 (by kernel_rfl) rfl ?_
  repeat' ((conv => whnf); first | refine And.intro ?_ ?_ | intro _ | refine ret_q ?_ | exact RegOK.mk (by kernel_rfl) | (refine ⟨_, h1.rdAt 2 rfl, ?_⟩) | (refine r_lookup2 (ek := ekI) (ev := ekI) h3.rd mt132 key3 zo3 0 rfl (fun v hv => ?_) (fun hv => ?_)) | (exfalso; simp [lk] at hv; done) | fail)
  simp [lk] at hv; subst hv; rfl
abbrev node0 : Value := .agg #[ip 0, .bool true, sl0]
theorem tnode_r (w : World) (p : Nat) (h : TreeE p w NoE) : Cr Tryz.prog 37 [ptr p, ip 0] w node0 := by
  obtain ⟨cb, cc, r, born, clock, h0, hb, h1, h2, h3⟩ := h
  refine cr_of_ev TT_ok mix Tryz.func37 (by kernel_rfl) rfl ?_
  repeat' ((conv => whnf); first | refine And.intro ?_ ?_ | intro _ | refine ret_q ?_ | exact RegOK.mk (by kernel_rfl) | (refine ⟨_, h1.rdAt 0 rfl, ?_⟩) | (refine ⟨_, rfl, ⟨by decide, by decide⟩, ?_⟩) | (refine ⟨_, h2.rd0, rfl, ?_⟩) | fail)
  refine loop_rounds TT_ok mix 2 ?_
  repeat' ((conv => whnf); first | (intro h; first | exact absurd h (by decide) | exact Bool.noConfusion h) | refine And.intro ?_ ?_ | intro _ | refine ret_q ?_ | exact RegOK.mk (by kernel_rfl) | (exfalso; done) | fail)
  all_goals first | decide | rfl
theorem Node_r (w : World) (p : Nat) (h : TreeE p w NoE) : Cr Tryz.prog 10 [ptr p, ip 0] w (.tuple #[node0, .bool true]) := by
  refine cr_of_ev TT_ok mix Tryz.func10 (by kernel_rfl) rfl ?_
  repeat' ((conv => whnf); first | (intro h; first | exact absurd h (by decide) | exact Bool.noConfusion h) | refine And.intro ?_ ?_ | intro _ | refine ret_q ?_ | exact RegOK.mk (by kernel_rfl) | (refine call_c (fun w' _ hl => find_r w' p (stb_later hl _ h)) ?_) | (refine call_c (fun w' _ hl => tnode_r w' p (stb_later hl _ h)) ?_) | fail)
  all_goals rfl

theorem Clone73nil_q : Cq Tryz.prog 73 [sl0] sl0 := by
  refine cq_of_ev TT_ok mix Tryz.func73 (by kernel_rfl) rfl fun w => ?_
  repeat' ((conv => whnf); first | (intro h; first | exact absurd h (by decide) | exact Bool.noConfusion h) | refine And.intro ?_ ?_ | intro _ | refine ret_q ?_ | exact RegOK.mk (by kernel_rfl) | (exfalso; done) | fail)
  rfl
/-- slices.Clone of cells that are known: a row of its own with the same cells. -/
theorem Clone72_f (w : World) (X : Nat → Prop) (ad : Addr) (n c : Nat) (xs : List Value) (h : Dat w X ad xs) (hl : xs.length = n * 4) (h1 : ∀ u ∈ xs, u.oneCell' = true) (hn : n ≤ 1000000000) :
    Cf Tryz.prog 72 [.slice (some ad) n c] w X [] (ι := Option Addr × Nat) (fun i => .slice i.1 n i.2) (fun i => [rowP 130 4 i.1 n i.2 xs]) (fun i _ _ => RowV i.1 n i.2) := by
  have h := h.mv (Later.mono w (fun (b : Nat) (hb : X b ∧ b < w.heap.size) => hb.1))
  refine cf_of_ev TT_ok mix Tryz.func72 (by kernel_rfl) rfl fun M hM => ?_
  repeat' ((conv => whnf); first | (intro h; first | exact absurd h (by decide) | exact Bool.noConfusion h) | refine And.intro ?_ ?_ | intro _ | refine ret_q ?_ | exact RegOK.mk (by kernel_rfl) | (refine r_appendN rt131 h.rd0 hl h1 ⟨by omega, by simp only [maxLen]; omega⟩ ?_) | (refine ret_f ((_, _)) rfl rfl fun w' E' hl rel => Pv.go ?_) | fail)
  exact ⟨by assumption⟩
theorem sz37 : szT Tryz.prog 37 = some 1 := by kernel_rfl
theorem treeCopy_f (w : World) (X : Nat → Prop) (p : Nat) (h : TreeE p w X) : Cf Tryz.prog 35 [ptr p] w X [] ptr (fun _ => []) TreeE := by
  obtain ⟨cb, cc, r, born, clock, h0, hb, h1, h2, h3⟩ := stE h
  refine cf_of_ev TT_ok mix Tryz.func35 (by kernel_rfl) rfl fun M hM => ?_
  repeat' ((conv => whnf); first | refine And.intro ?_ ?_ | intro _ | refine ret_q ?_ | exact RegOK.mk (by kernel_rfl) | (refine ⟨_, Dat.rdAt (a := ⟨p, 0, none⟩) (cs := [.slice (some cb) 1 cc, sl0, .map (some r)]) (by repeat (first | assumption | refine Dat.mv ?_ (by assumption) | refine stb_later (by assumption) _ ?_)) 0 rfl, ?_⟩) | (refine ⟨_, Dat.rdAt (a := ⟨p, 0, none⟩) (cs := [.slice (some cb) 1 cc, sl0, .map (some r)]) (by repeat (first | assumption | refine Dat.mv ?_ (by assumption) | refine stb_later (by assumption) _ ?_)) 1 rfl, ?_⟩) | (refine ⟨_, Dat.rdAt (a := ⟨p, 0, none⟩) (cs := [.slice (some cb) 1 cc, sl0, .map (some r)]) (by repeat (first | assumption | refine Dat.mv ?_ (by assumption) | refine stb_later (by assumption) _ ?_)) 2 rfl, ?_⟩) | (refine call_n (fun w' X' _ hl => Clone72_f w' X' cb 1 cc [ip 0, .bool true, ip (-1), sl0] (h2.mv hl) rfl (by simp [Value.oneCell']) (by omega)) ?_; intro ⟨b1, c1⟩ w1 E1 hv l1) | refine call_q Clone73nil_q ?_ | (refine r_makeMap ekI ekI ?_; intro mr) | fail)
  all_goals
    obtain ⟨g, rfl⟩ := hv.some_ (by have := hv.le; dsimp only at this ⊢; omega)
    refine loop_rounds TT_ok mix 3 ?_
    repeat' ((conv => whnf); first | (intro h; first | exact absurd h (by decide) | exact Bool.noConfusion h) | refine And.intro ?_ ?_ | intro _ | refine ret_q ?_ | exact RegOK.mk (by kernel_rfl) | (refine ⟨_, rfl, ⟨by decide, by decide⟩, ?_⟩) | (refine ⟨sl0, rd_row 0 3 rfl rfl, ?_⟩) | refine call_q Clone73nil_q ?_ | (refine r_store 0 3 rfl rfl (by decide) (by decide) sz37 (by simp [Value.cells, Value.oneCell']) (by decide) rfl ?_) | (refine ⟨_, Dat.rdAt (a := ⟨p, 0, none⟩) (cs := [.slice (some cb) 1 cc, sl0, .map (some r)]) (by repeat (first | assumption | refine Dat.mv ?_ (by assumption) | refine stb_later (by assumption) _ ?_)) 2 rfl, ?_⟩) | (refine r_range (MapD.rd (r := r) (ek := ekI) (ev := ekI) (kvs := [(0, 0, born)]) (clock := clock) (by repeat (first | assumption | refine Dat.mv ?_ (by assumption) | refine stb_later (by assumption) _ ?_))) mt132 ?_; intro it) | fail)
    refine loop_rounds TT_ok mix 3 ?_
    repeat' ((conv => whnf); first | (intro h; first | exact absurd h (by decide) | exact Bool.noConfusion h) | refine And.intro ?_ ?_ | intro _ | refine ret_q ?_ | exact RegOK.mk (by kernel_rfl) | (refine r_next (ek := ekI) (ev := ekI) 2 rfl (MapD.rd (r := r) (kvs := [(0, 0, born)]) (clock := clock) (by repeat (first | assumption | refine Dat.mv ?_ (by assumption) | refine stb_later (by assumption) _ ?_))) (by simpa using hb) rfl (fun ha => ?_) (fun e he hns => ?_)) | (exfalso; have := ha _ (List.mem_singleton.2 rfl); simp at this; done) | (exfalso; obtain rfl := List.mem_singleton.1 he; simp at hns; done) | (refine r_entry (ek := ekI) (ev := ekI) 2 rfl (MapD.rd (r := r) (kvs := [(0, 0, born)]) (clock := clock) (by repeat (first | assumption | refine Dat.mv ?_ (by assumption) | refine stb_later (by assumption) _ ?_))) he rfl ?_; obtain rfl := List.mem_singleton.1 he) | (refine r_insert (ek := ekI) (ev := ekI) 1 rfl mt132 key3 0 0 rfl rfl rfl (by simp) ?_) | (refine ret_f (_) rfl rfl fun w' E' hl rel => Pv.go ?_) | fail)
    all_goals exact ⟨_, _, _, 0, 1, by have := hv.le; exact this, by omega, rel.dat (hM rfl) 0 rfl rfl rfl, rel.row (hM rfl) 0 rfl, rel.map (hM rfl) 1 rfl⟩
end Go.Ev

