/- Contracts of single functions: what a view must do at all; conditions: none. -/
import Derived.Test.YtojhoeogikdjoaaGreatDoorF10
set_option linter.unusedSimpArgs false
set_option linter.unusedVariables false
set_option maxRecDepth 10000
namespace Go.Ev
open Go.Proofs Go.RowKit

theorem call_row {C : Ctx} {m : Bool} {k : AV → St → Prop} {W : World} {E : Nat → Prop} {ns : List Nat} {hs : List HB} {os : List OP} {tm : List AV} (e size : Nat) (b : Option Addr) {fv : Value} {args : List Value}
    (h : appO os [rowP e size b 0 0 []] fun os => CallVC C m fv args ⟨W, E, ns, hs, os, tm⟩ k) : CallVC C m fv args ⟨W, E, ns, hs, os, tm⟩ k := by
  rw [appO_eq] at h
  exact ⟨fun w hm => by
    obtain h1 := h.go w (hm.addRow e size b)
    exact h1.mono fun v w' ⟨g1, S', r, g2, g3⟩ => ⟨g1, S', r, fun a ha => g2 a ⟨ha.d, ha.t⟩, g3⟩⟩
theorem kok0 : ∀ k ∈ ks0, (∃ x0 y0, KOK 0 k x0 y0) ∧ k.right = true := by
  intro k hk
  simp only [ks0, List.mem_cons, List.not_mem_nil, or_false] at hk
  rcases hk with rfl | rfl | rfl | rfl
  · exact ⟨⟨0, 0, by decide, by decide, by decide, by decide⟩, by decide⟩
  · exact ⟨⟨8, 0, by decide, by decide, by decide, by decide⟩, by decide⟩
  · exact ⟨⟨0, 8, by decide, by decide, by decide, by decide⟩, by decide⟩
  · exact ⟨⟨8, 8, by decide, by decide, by decide, by decide⟩, by decide⟩
theorem kok8 : ∀ k ∈ ks8, (∃ x0 y0, KOK 8 k x0 y0) ∧ k.right = true := by
  intro k hk
  simp only [ks8, List.mem_cons, List.not_mem_nil, or_false] at hk
  rcases hk with rfl | rfl | rfl | rfl
  · exact ⟨⟨8, 0, by decide, by decide, by decide, by decide⟩, by decide⟩
  · exact ⟨⟨16, 0, by decide, by decide, by decide, by decide⟩, by decide⟩
  · exact ⟨⟨8, 8, by decide, by decide, by decide, by decide⟩, by decide⟩
  · exact ⟨⟨16, 8, by decide, by decide, by decide, by decide⟩, by decide⟩
theorem ShI.k4 {d d2 : Nat} {x : LSh} (h : ShI ks0 [] 0 d d2 0 x) (h4 : x.i = 4) : x.order = ks0 ∧ x.k = 4 ∧ x.m = 4 := by
  have e : x.order = ks0 := by rw [h.o, h4]; decide
  have e2 : x.k = 4 := by rw [← h.l, e]; decide
  exact ⟨e, e2, by rw [h.m, e2]; decide⟩
theorem ShI.k6 {d d2 : Nat} {x : LSh} (h : ShI ks8 ks0 4 d d2 4 x) (h4 : x.i = 4) : x.m = 6 := by
  have e2 : x.k = 6 := by rw [← h.l, h.o, h4]; decide
  rw [h.m, e2]; decide
set_option maxHeartbeats 4000000 in
theorem awake_f (w : World) (X : Nat → Prop) : Cf Tryz.prog 29 [] w X [] (ι := Unit) (fun _ => .bool true) (fun _ => []) (fun _ _ _ => True) := by
  refine cf_of_ev TT_ok mix Tryz.func29 (by kernel_rfl) rfl fun M hM => ?_
  repeat' ((conv => whnf); first | (intro h; first | exact absurd h (by decide) | exact Bool.noConfusion h) | refine And.intro ?_ ?_ | intro _ | refine ret_q ?_ | exact RegOK.mk (by kernel_rfl) | (refine call_n (fun w' X' _ hl => vNew_f w' X' 16 16 (by decide)) ?_; intro ⟨v, c, r, d0⟩ w1 E1 hd0 l1) | (refine call_n (fun w' X' _ hl => docNew_f w' X') ?_; intro d w2 E2 hd l2) | (refine call_row 194 2 none ?_; (conv => whnf); refine call_f [structP 140 v (cV0 0 c d0 0), structP 189 c (cCa r none 0 0), mapP r vKy eIm [] 0, rowP 194 2 none 0 0 (([] : List Ky).flatMap cKy)] rfl (fun w' X' _ hl => Show_f w' X' v c r d d0 none 0 0 [] 0 [] 0 0 (by decide) ks0 rfl kok0 Keys0_f (by decide) rfl rfl (by decide) (by decide) ⟨nofun⟩ (stb_later hl _ hd) (stb_later hl _ (stb_later l2 _ hd0)) (RowV.nil none)) (.inl rfl) ?_; intro ⟨g, d3, b, cap, kvs, clock, k, order, m⟩ w3 E3 hI l3; obtain ⟨e1, e2, e3⟩ := hI.k4 rfl; dsimp only at e1 e2 e3; subst e1 e2 e3) | (refine call_c (fun w' hm hl => Drawn_r w' v 16 16 0 0 0 c d3 4 ((rd_st 0 rfl rfl : RdAt _ ⟨v, 0, none⟩ (cVw 16 16 0 0 0 c d3 4)).dat hm)) ?_) | (refine call_f [structP 140 v (cVw 16 16 0 0 0 c d3 4)] rfl (fun w' X' _ hl => Pan_f w' X' v 16 16 0 0 0 c d3 4 8 0 (by decide)) (.inl rfl) ?_; intro _ w4 E4 _ l4) | (refine call_f [structP 140 v (cV0 8 c d3 4), structP 189 c (cCa r b 4 cap), mapP r vKy eIm kvs clock, rowP 194 2 b 4 cap (ks0.flatMap cKy)] rfl (fun w' X' _ hl => Show_f w' X' v c r d d3 b 4 cap kvs clock ks0 4 8 (by decide) ks8 rfl kok8 Keys8_f (by decide) hI.q rfl (by decide) (by decide) (stb_later hl _ (stb_later l4 _ hI.im)) (stb_later hl _ (stb_later l4 _ hI.d)) (stb_later hl _ (stb_later l4 _ hI.d2)) hI.r) (.inl rfl) ?_; intro ⟨g2, d5, b2, cap2, kvs2, clock2, k2, order2, m2⟩ w5 E5 hI2 l5; have e4 := hI2.k6 rfl; dsimp only at e4; subst e4) | (refine call_c (fun w' hm hl => Drawn_r w' v 16 16 8 0 0 c d5 6 ((rd_st 0 rfl rfl : RdAt _ ⟨v, 0, none⟩ (cVw 16 16 8 0 0 c d5 6)).dat hm)) ?_) | fail)
  (refine ret_f (()) rfl rfl fun w' E' hl rel => Pv.go ?_)
  exact ⟨trivial⟩
end Go.Ev

