/- Contracts of single functions: a view shows an empty drawing; conditions: none. -/
import Derived.Test.YtojhoeogikdjoaaGreatDoorF9
set_option linter.unusedSimpArgs false
set_option linter.unusedVariables false
set_option maxRecDepth 10000
namespace Go.Ev
open Go.Proofs Go.RowKit

def addK : List Ky → List Ky → List Ky
  | o, [] => o
  | o, k :: ks => addK (if k ∈ o then o else o ++ [k]) ks
abbrev cV0 (px : Int) (c d : Nat) (n : Int) : List Value := cVw 16 16 px 0 0 c d n
theorem addK_take {o : List Ky} : ∀ {ks : List Ky} {i : Nat} {k : Ky}, ks[i]? = some k → addK o (ks.take (i + 1)) = if k ∈ addK o (ks.take i) then addK o (ks.take i) else addK o (ks.take i) ++ [k]
  | [], i, k, h => by simp at h
  | a :: ks, 0, k, h => by simp at h; subst h; simp [addK]
  | a :: ks, i + 1, k, h => by
    simp only [List.take_succ_cons, addK]
    exact addK_take (by simpa using h)
theorem mem_addK_self {k : Ky} : ∀ {ks o : List Ky}, k ∈ o → k ∈ addK o ks
  | [], o, h => h
  | a :: ks, o, h => by
    simp only [addK]
    apply mem_addK_self
    split
    · exact h
    · exact List.mem_append_left _ h
theorem mem_addK {k : Ky} : ∀ {ks o : List Ky}, k ∈ ks → k ∈ addK o ks
  | a :: ks, o, h => by
    simp only [addK]
    rcases List.mem_cons.1 h with rfl | h
    · apply mem_addK_self
      split
      · assumption
      · simp
    · exact mem_addK h
theorem lk_some_of {kvs : List (Ky × Im × Nat)} {k : Ky} (h : k ∈ kvs.map (·.1)) : ∃ v, lk k kvs = some v := by
  obtain ⟨e, he, rfl⟩ := List.mem_map.1 h
  unfold lk
  cases hf : kvs.find? fun e' => e'.1 = e.1 with
  | some x => exact ⟨_, rfl⟩
  | none => exact absurd (List.find?_eq_none.1 hf e he) (by simp)
theorem lk_none_of {kvs : List (Ky × Im × Nat)} {k : Ky} (h : k ∉ kvs.map (·.1)) : lk k kvs = none := by
  unfold lk
  rw [Option.map_eq_none_iff, List.find?_eq_none]
  intro e he
  simp only [decide_eq_true_eq]
  rintro rfl
  exact h (List.mem_map.2 ⟨e, he, rfl⟩)
theorem szTile {x0 y0 : Int} (hx : 0 ≤ x0 ∧ x0 ≤ 1000) (hy : 0 ≤ y0 ∧ y0 ≤ 1000) : szOK ⟨x0, y0, x0 + 8, y0 + 8⟩ = true := by
  have h1 : W (x0 + 8 - x0) = 8 := by rw [show x0 + 8 - x0 = 8 by omega]; rfl
  have h2 : W (y0 + 8 - y0) = 8 := by rw [show y0 + 8 - y0 = 8 by omega]; rfl
  have h3 : (Bx.mk x0 y0 (x0 + 8) (y0 + 8)).empty = false := by
    simp only [Bx.empty, Bool.or_eq_false_iff, decide_eq_false_iff_not]; omega
  simp only [szOK, h1, h2, h3, mn, mx]
  have h4 : ¬ ((if y0 < x0 then y0 else x0) < -4194304) := by rw [ite_lt_]; omega
  have h5 : ¬ (if y0 + 8 > x0 + 8 then y0 + 8 else x0 + 8) > 4194304 := by rw [gt_iff_lt, lt_ite_]; omega
  rw [decide_eq_false h4, decide_eq_false h5]
  rfl
structure LSh where
  W : World
  E : Nat → Prop
  i : Nat
  b : Option Addr
  k : Nat
  cap : Nat
  kvs : List (Ky × Im × Nat)
  clock : Nat
  order : List Ky
  m : Int
structure ShI (ks order : List Ky) (k0 d d2 : Nat) (n : Int) (x : LSh) : Prop where
  i : x.i ≤ 4
  o : x.order = addK order (ks.take x.i)
  q : x.kvs.map (·.1) = x.order
  l : x.order.length = x.k
  u : k0 ≤ x.k ∧ x.k ≤ k0 + x.i
  m : x.m = n + ((x.k - k0 : Nat) : Int)
  d : DocE d x.W x.E
  d2 : DocE d2 x.W x.E
  im : ImsD x.kvs x.W x.E
  r : RowV x.b x.k x.cap
set_option maxHeartbeats 4000000 in
theorem Show_f (w0 : World) (X : Nat → Prop) (v c r d dl : Nat) (b : Option Addr) (k0 cap : Nat) (kvs : List (Ky × Im × Nat)) (clock : Nat) (order : List Ky) (n px : Int) (hpx : 0 ≤ px ∧ px ≤ 8) (ks : List Ky) (hlen : ks.length = 4)
    (hks : ∀ k ∈ ks, (∃ x0 y0, KOK px k x0 y0) ∧ k.right = true)
    (hK : ∀ w X, Cf Tryz.prog 105 [.agg #[ip px, ip 0, ip (px + 16), ip 16]] w X [] (ι := Option Addr × Nat) (fun i => .slice i.1 4 i.2) (fun i => [rowP 194 2 i.1 4 i.2 (ks.flatMap cKy)]) (fun i _ _ => RowV i.1 4 i.2))
    (hsz : szOK ⟨px, 0, px + 16, 16⟩ = true ∧ szW ⟨px, 0, px + 16, 16⟩ = 16 ∧ szH ⟨px, 0, px + 16, 16⟩ = 16)
    (hord : kvs.map (·.1) = order) (hol : order.length = k0) (hk0 : k0 ≤ 100) (hn : 0 ≤ n ∧ n ≤ 1000) (hi : ImsD kvs w0 X) (hd : DocE d w0 X) (hdl : DocE dl w0 X) (hrv : RowV b k0 cap) :
    Cf Tryz.prog 66 [ptr v, ptr d] w0 X [structP 140 v (cV0 px c dl n), structP 189 c (cCa r b k0 cap), mapP r vKy eIm kvs clock, rowP 194 2 b k0 cap (order.flatMap cKy)]
      (ι := Nat × Nat × Option Addr × Nat × List (Ky × Im × Nat) × Nat × Nat × List Ky × Int) (fun i => vIm 16 16 (some ⟨i.1, 0, none⟩) 256 256)
      (fun i => [structP 140 v (cV0 px c i.2.1 i.2.2.2.2.2.2.2.2), structP 189 c (cCa r i.2.2.1 i.2.2.2.2.2.2.1 i.2.2.2.1), mapP r vKy eIm i.2.2.2.2.1 i.2.2.2.2.2.1, rowP 194 2 i.2.2.1 i.2.2.2.2.2.2.1 i.2.2.2.1 (i.2.2.2.2.2.2.2.1.flatMap cKy)])
      (fun i W E => ShI ks order k0 d i.2.1 n ⟨W, E, 4, i.2.2.1, i.2.2.2.2.2.2.1, i.2.2.2.1, i.2.2.2.2.1, i.2.2.2.2.2.1, i.2.2.2.2.2.2.2.1, i.2.2.2.2.2.2.2.2⟩) := by
  have hi := stE hi
  have hd := stE hd
  have hdl := stE hdl
  have hx1 : IntKind.i64.wrap (px + 16) = px + 16 := i64_id (by omega)
  refine cf_of_evt TT_ok mix Tryz.func66 (by kernel_rfl) rfl [.one (.p 0 0), ofVal (ptr d)] (by first | exact ⟨rfl, trivial⟩ | exact ⟨rfl, ofVal_R _ _, trivial⟩ | exact ⟨rfl, ofVal_R _ _, ofVal_R _ _, trivial⟩ | exact ⟨rfl, ofVal_R _ _, ofVal_R _ _, ofVal_R _ _, trivial⟩ | exact ⟨rfl, rfl, trivial⟩ | exact ⟨rfl, rfl, rfl, trivial⟩ | (simp [TR, AV.R, Lf.R, LR]; done)) fun M hX => ?_
  repeat' ((conv => whnf); first | (intro h; first | exact absurd h (by decide) | exact Bool.noConfusion h) | refine And.intro ?_ ?_ | intro _ | refine ret_q ?_ | exact RegOK.mk (by kernel_rfl) | (refine call_c (fun w' hm hl => Matrix_r w' v 16 16 px 0 c dl n ((rd_tag 0 rfl rfl rfl rfl).dat hm)) ?_) | (refine call_c (fun w' _ hl => Damage_r w' dl d _ _ _ _ _ _ (stb_later hl _ hdl) (stb_later hl _ hd)) ?_) | (refine call_sel [0, 2, 1] ?_; (conv => whnf); refine call_f [structP 189 c (cCa r b k0 cap), rowP 194 2 b k0 cap (order.flatMap cKy)] rfl (fun w' X' _ hl => Drop_f w' X' c r b k0 cap order (by omega) hol) (.inl rfl) ?_; intro _ w2 E2 _ l2) | (refine call_n (fun w' X' _ hl => docCopy_f w' X' d (stb_later hl _ (stb_later l2 _ hd))) ?_; intro d2 w3 E3 hd2 l3) | (refine call_c (fun w' hm hl => Window_r w' v 16 16 px 0 0 c d2 n (px + 16) 16 hx1 rfl ((rd_tag 0 rfl rfl rfl rfl).dat hm)) ?_) | (refine call_n (fun w' X' _ hl => hK w' X') ?_; intro ⟨kb, kc⟩ w5 E5 hv l5) | fail)
  rename_i hiX hdX hdlX nA hA iu tA nB hB
  refine loop_sel [1, 3, 2, 0] ?_; (conv => whnf)
  refine loop_g TT_ok mix (ι := LSh) (fun x => ⟨x.W, x.E, [v, nA, nB], [.k 140 ((cV0 px c d2 x.m).map .v), .k 143 [.v (.int .i64 0), .v (.int .i64 0), .v (.slice none 0 0)], .k 63 [.v (ip px), .v (ip 0), .v (ip (px + 16)), .v (ip 16)]],
    [structP 189 c (cCa r x.b x.k x.cap), mapP r vKy eIm x.kvs x.clock, rowP 194 2 x.b x.k x.cap (x.order.flatMap cKy), rowP 194 2 kb 4 kc (ks.flatMap cKy)], [(37, .one (.v (ip x.i)))]⟩) (fun x => ShI ks order k0 d d2 n x) (fun x => 4 - x.i) (⟨w5, E5, 0, b, k0, cap, kvs, clock, order, n⟩) ⟨⟨Nat.zero_le _, rfl, hord, hol, ⟨Nat.le_refl _, Nat.le_refl _⟩, by simp, stb_later l5 _ (stb_later l3 _ (stb_later l2 _ hd)), stb_later l5 _ hd2, stb_later l5 _ (stb_later l3 _ (stb_later l2 _ hi)), hrv⟩, ⟨rfl, trivial⟩, rfl, rfl, ⟨_, rfl⟩, ⟨_, rfl⟩, ⟨_, rfl⟩⟩ (fun _ => ⟨⟨rfl, rfl⟩, rfl⟩) ?_
  rintro x hI
  by_cases hlt : x.i < 4
  · obtain ⟨⟨kx, ky⟩, hk⟩ : ∃ k, ks[x.i]? = some k := ⟨ks[x.i]'(by omega), List.getElem?_eq_getElem _⟩
    obtain ⟨⟨x0, y0, hbox⟩, hkr⟩ := hks _ (List.mem_of_getElem? hk)
    obtain ⟨kg, rfl⟩ := hv.some_ (by have := hv.le; dsimp only at this ⊢; omega)
    by_cases hin : (⟨kx, ky⟩ : Ky) ∈ x.order
    · have hok : (lk (⟨kx, ky⟩ : Ky) x.kvs).isSome = true := by obtain ⟨v, hv⟩ := lk_some_of (hI.q ▸ hin); rw [hv]; rfl
      repeat' ((conv => whnf); first | (exfalso; have := ‹decide _ = false›; simp at this; omega) | (intro h; first | exact absurd h (by decide) | exact Bool.noConfusion h) | refine And.intro ?_ ?_ | intro _ | refine ret_q ?_ | exact RegOK.mk (by kernel_rfl) | (refine ⟨_, rfl, ⟨by omega, by omega⟩, ?_⟩) | (refine ⟨cKy ⟨kx, ky⟩, rd_row 3 (x.i * 2) rfl (flatMap_at (enc := cKy) (size := 2) (fun _ => rfl) hk), rfl, ?_⟩) | (refine call_r (p := fun _ => True) (fun w' hm hl => Get_r w' NoE c r x.b x.k x.cap x.kvs x.clock kx ky (stb_later hl _ hI.im) ((rd_st 0 rfl rfl : RdAt _ ⟨c, 0, none⟩ (cCa r x.b x.k x.cap)).dat hm) ⟨(rd_map 1 rfl).go _ _ hm⟩ true hok) (fun _ _ _ _ => trivial) ?_; intro _ _) | fail)
      all_goals
        (refine ⟨⟨x.W, x.E, x.i + 1, x.b, x.k, x.cap, x.kvs, x.clock, x.order, x.m⟩, ?_, ⟨congrArg (fun z => AV.one (.v (ip z))) (ipS hlt (by omega)), trivial⟩, rfl, rfl, ⟨_, rfl⟩, ⟨_, rfl⟩, ⟨_, rfl⟩, rfl⟩)
        exact ⟨⟨by dsimp only; omega, by dsimp only; rw [addK_take hk, ← hI.o, if_pos hin], hI.q, hI.l, ⟨hI.u.1, by have := hI.u.2; dsimp only; omega⟩, hI.m, hI.d, hI.d2, hI.im, hI.r⟩, by dsimp only; omega⟩
    · have hok : (lk (⟨kx, ky⟩ : Ky) x.kvs).isSome = false := by rw [lk_none_of (hI.q ▸ hin)]; rfl
      repeat' ((conv => whnf); first | (exfalso; have := ‹decide _ = false›; simp at this; omega) | (intro h; first | exact absurd h (by decide) | exact Bool.noConfusion h) | refine And.intro ?_ ?_ | intro _ | refine ret_q ?_ | exact RegOK.mk (by kernel_rfl) | (refine ⟨_, rfl, ⟨by omega, by omega⟩, ?_⟩) | (refine ⟨cKy ⟨kx, ky⟩, rd_row 3 (x.i * 2) rfl (flatMap_at (enc := cKy) (size := 2) (fun _ => rfl) hk), rfl, ?_⟩) | (refine call_r (p := fun _ => True) (fun w' hm hl => Get_r w' NoE c r x.b x.k x.cap x.kvs x.clock kx ky (stb_later hl _ hI.im) ((rd_st 0 rfl rfl : RdAt _ ⟨c, 0, none⟩ (cCa r x.b x.k x.cap)).dat hm) ⟨(rd_map 1 rfl).go _ _ hm⟩ false hok) (fun _ _ _ _ => trivial) ?_; intro _ _) | (refine call_c (fun w' hm hl => Matrix_r w' v 16 16 px 0 c d2 x.m ((rd_tag 0 rfl rfl rfl rfl).dat hm)) ?_) | refine call_q (tBoxB_q _ _ _ _ _ _ hbox.box) ?_ | (refine call_n (fun w' X' _ hl => Draw_f w' X' d (stb_later hl _ hI.d) 65536 0 0 65536 0 0 x0 y0 (x0 + 8) (y0 + 8) (by decide) (szTile (by have := hbox.x; omega) (by have := hbox.y; omega)) (by rw [show x0 + 8 - x0 = 8 by omega]; rfl) (by rw [show y0 + 8 - y0 = 8 by omega]; rfl) 64 (by rw [show x0 + 8 - x0 = 8 by omega, show y0 + 8 - y0 = 8 by omega]; rfl) 8 8 (by rw [show x0 + 8 - x0 = 8 by omega]; rfl) (by rw [show y0 + 8 - y0 = 8 by omega]; rfl)) ?_; intro im w6 E6 hsl l6) | (refine call_f [structP 189 c (cCa r x.b x.k x.cap), mapP r vKy eIm x.kvs x.clock, rowP 194 2 x.b x.k x.cap (x.order.flatMap cKy)] rfl (fun w' X' _ hl => Put_f w' X' c r x.b x.k x.cap x.kvs x.clock x.order kx ky (some ⟨im, 0, none⟩) 64 (stb_later hl _ hsl) hin (hI.q ▸ hin) (by have := hI.u.2; omega) hkr) (.inl rfl) ?_; intro ⟨b', cap', ib', ic'⟩ w7 E7 hp l7) | fail)
      all_goals
        (refine ⟨⟨w7, E7, x.i + 1, b', x.k + 1, cap', x.kvs ++ [(⟨kx, ky⟩, ⟨8, 8, ib', 64, ic'⟩, x.clock)], x.clock + 1, x.order ++ [⟨kx, ky⟩], IntKind.i64.wrap (x.m + 1)⟩, ?_, ⟨congrArg (fun z => AV.one (.v (ip z))) (ipS hlt (by omega)), trivial⟩, rfl, rfl, ⟨_, rfl⟩, ⟨_, rfl⟩, ⟨_, rfl⟩, rfl⟩)
        have hm := hI.m
        have hu := hI.u
        have hi4 := hI.i
        refine ⟨⟨by dsimp only; omega, by dsimp only; rw [addK_take hk, ← hI.o, if_neg hin], by dsimp only; rw [List.map_append, hI.q]; rfl, by dsimp only; rw [List.length_append, hI.l]; rfl, by dsimp only; omega, ?_, stb_later l7 _ (stb_later l6 _ hI.d), stb_later l7 _ (stb_later l6 _ hI.d2), ⟨fun e he => ?_⟩, hp.1⟩, by dsimp only; omega⟩
        · dsimp only
          rw [hm, i64_id (by omega)]; omega
        · rcases List.mem_append.1 he with he | he
          · exact stb_later l7 _ (stb_later l6 _ (hI.im.all e he))
          · obtain rfl := List.mem_singleton.1 he
            exact hp.2
  · have hJ : ∀ k ∈ ks, (∃ x0 y0, KOK px k x0 y0) ∧ ∃ im, lk k x.kvs = some im := fun k hk => ⟨(hks k hk).1, lk_some_of (by rw [hI.q, hI.o, List.take_of_length_le (by omega)]; exact mem_addK hk)⟩
    repeat' ((conv => whnf); first | (intro h; first | exact absurd h (by decide) | exact Bool.noConfusion h) | (exfalso; have := ‹decide _ = true›; simp at this; omega) | refine And.intro ?_ ?_ | intro _ | refine ret_q ?_ | exact RegOK.mk (by kernel_rfl) | (refine call_r (p := fun _ => True) (fun w' hm hl => Join_r w' NoE c r x.b x.k x.cap x.kvs x.clock px hpx ks hlen hJ (stb_later hl _ hI.im) ((rd_st 0 rfl rfl : RdAt _ ⟨c, 0, none⟩ (cCa r x.b x.k x.cap)).dat hm) ⟨(rd_map 1 rfl).go _ _ hm⟩ hK hsz) (fun _ _ _ _ => trivial) ?_; intro g _) | fail)
    all_goals
      (refine ret_t ((g, d2, x.b, x.cap, x.kvs, x.clock, x.k, x.order, x.m)) 0 [_, _, _] rfl rfl rfl rfl rfl rfl fun w' E' hl rel => Pv.go ?_)
      have h4 : x.i = 4 := by have := hI.i; omega
      exact ⟨Nat.le_refl _, by dsimp only; rw [hI.o, h4], hI.q, hI.l, by have := hI.u; dsimp only; omega, hI.m, stb_later hl _ hI.d, stb_later hl _ hI.d2, stb_later hl _ hI.im, hI.r⟩
end Go.Ev

