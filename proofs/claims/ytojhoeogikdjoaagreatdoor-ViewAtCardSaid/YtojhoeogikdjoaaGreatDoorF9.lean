/- Contracts of single functions: a cache that is only read; conditions: none. -/
import Derived.Test.YtojhoeogikdjoaaGreatDoorF8
set_option linter.unusedSimpArgs false
set_option linter.unusedVariables false
set_option maxRecDepth 10000
namespace Go.Ev
open Go.Proofs Go.RowKit

theorem Get_r (w : World) (X : Nat → Prop) (c r : Nat) (b : Option Addr) (n cap : Nat) (kvs : List (Ky × Im × Nat)) (clock : Nat) (x y : Int) (hi : ImsD kvs w X) (hc : Dat w X ⟨c, 0, none⟩ (cCa r b n cap)) (hmp : MapD r vKy eIm kvs clock w X) (ok : Bool) (hok : (lk ⟨x, y⟩ kvs).isSome = ok) :
    Cf Tryz.prog 106 [ptr c, .agg #[ip x, ip y]] w X []
    (ι := Int × Int × Option Addr × Nat × Nat) (fun i => .tuple #[vIm i.1 i.2.1 i.2.2.1 i.2.2.2.1 i.2.2.2.2, .bool ok]) (fun _ => []) (fun _ _ _ => True) := by
  have hi := stE hi
  have hc := stE (P := fun W E => Dat W E ⟨c, 0, none⟩ (cCa r b n cap)) hc
  have hmp := stE hmp
  cases ok with
  | true =>
    refine cf_of_ev TT_ok mix Tryz.func106 (by kernel_rfl) rfl fun M hM => ?_
    repeat' ((conv => whnf); first | refine And.intro ?_ ?_ | intro _ | refine ret_q ?_ | exact RegOK.mk (by kernel_rfl) | (refine ⟨_, Dat.rdAt (a := ⟨c, 0, none⟩) hc 1 rfl, ?_⟩) | (refine r_lookup2 (ek := vKy) (ev := eIm) (MapD.rd hmp) mt186 key194 zo143 ⟨x, y⟩ rfl (fun v hv => ?_) (fun hv => ?_)) | (refine call_n (fun w' X' _ hl => copiedE_f w' X' _ _ _ _ _ (stb_later hl _ (hi.has hv))) ?_) | (refine call_n (fun w' X' _ hl => copiedE_f w' X' _ _ _ _ _ (HasSl.nil _ _)) ?_) | (refine ret_f (_, _, _, _, _) rfl rfl fun _ _ _ _ => ?_) | (exact trivial) | (exfalso; rw [hv] at hok; cases hok; done) | fail)
  | false =>
    refine cf_of_ev TT_ok mix Tryz.func106 (by kernel_rfl) rfl fun M hM => ?_
    repeat' ((conv => whnf); first | refine And.intro ?_ ?_ | intro _ | refine ret_q ?_ | exact RegOK.mk (by kernel_rfl) | (refine ⟨_, Dat.rdAt (a := ⟨c, 0, none⟩) hc 1 rfl, ?_⟩) | (refine r_lookup2 (ek := vKy) (ev := eIm) (MapD.rd hmp) mt186 key194 zo143 ⟨x, y⟩ rfl (fun v hv => ?_) (fun hv => ?_)) | (refine call_n (fun w' X' _ hl => copiedE_f w' X' _ _ _ _ _ (stb_later hl _ (hi.has hv))) ?_) | (refine call_n (fun w' X' _ hl => copiedE_f w' X' _ _ _ _ _ (HasSl.nil _ _)) ?_) | (refine ret_f (_, _, _, _, _) rfl rfl fun _ _ _ _ => ?_) | (exact trivial) | (exfalso; rw [hv] at hok; cases hok; done) | fail)
set_option maxHeartbeats 4000000 in
theorem Join_r (w : World) (X : Nat → Prop) (c r : Nat) (b : Option Addr) (n cap : Nat) (kvs : List (Ky × Im × Nat)) (clock : Nat) (px : Int) (hpx : 0 ≤ px ∧ px ≤ 8) (ks : List Ky) (hlen : ks.length = 4) (hks : ∀ k ∈ ks, (∃ x0 y0, KOK px k x0 y0) ∧ ∃ im, lk k kvs = some im) (hi : ImsD kvs w X) (hc : Dat w X ⟨c, 0, none⟩ (cCa r b n cap)) (hmp : MapD r vKy eIm kvs clock w X)
    (hK : ∀ w X, Cf Tryz.prog 105 [.agg #[ip px, ip 0, ip (px + 16), ip 16]] w X [] (ι := Option Addr × Nat) (fun i => .slice i.1 4 i.2) (fun i => [rowP 194 2 i.1 4 i.2 (ks.flatMap cKy)]) (fun i _ _ => RowV i.1 4 i.2))
    (hsz : szOK ⟨px, 0, px + 16, 16⟩ = true ∧ szW ⟨px, 0, px + 16, 16⟩ = 16 ∧ szH ⟨px, 0, px + 16, 16⟩ = 16) :
    Cf Tryz.prog 110 [ptr c, .agg #[ip px, ip 0, ip (px + 16), ip 16]] w X [] (ι := Nat) (fun i => .tuple #[vIm 16 16 (some ⟨i, 0, none⟩) 256 256, ip 0])
    (fun i => []) (fun _ _ _ => True) := by
  have hi := stE hi
  have hc := stE (P := fun W E => Dat W E ⟨c, 0, none⟩ (cCa r b n cap)) hc
  have hmp := stE hmp
  refine cf_of_ev TT_ok mix Tryz.func110 (by kernel_rfl) rfl fun M hM => ?_
  repeat' ((conv => whnf); first | (intro h; first | exact absurd h (by decide) | exact Bool.noConfusion h) | refine And.intro ?_ ?_ | intro _ | refine ret_q ?_ | exact RegOK.mk (by kernel_rfl) | (refine call_q (SizeB_q _ _ _ _ 16 16 hsz.1 hsz.2.1 hsz.2.2) ?_) | (refine call_n (fun w' X' _ hl => imgNew_f w' X' 16 16 rfl rfl) ?_; intro g w1 E1 _ l1) | (refine call_n (fun w' X' _ hl => hK w' X') ?_; intro ⟨kb, kc⟩ w2 E2 hv l2) | fail)
  all_goals
    refine loop_o TT_ok mix (ι := Nat × List Value) (fun i => [(37, .one (.v (ip i.1)))]) (fun i => [rowP 194 2 kb 4 kc (ks.flatMap cKy), rowP 43 4 (some ⟨g, 0, none⟩) 256 256 i.2]) (fun i => i.1 ≤ 4 ∧ i.2.length = 1024) (fun i => 4 - i.1) (0, zeros 256) ⟨⟨⟨Nat.zero_le _, rfl⟩, ⟨rfl, trivial⟩⟩, ⟨_, rfl⟩⟩ (fun _ => ⟨⟨rfl, rfl⟩, rfl⟩) ?_
    rintro ⟨i, xs⟩ ⟨hi4, hxs⟩
    by_cases hlt : i < 4
    · obtain ⟨k, hk⟩ : ∃ k, ks[i]? = some k := ⟨ks[i]'(by omega), List.getElem?_eq_getElem _⟩
      obtain ⟨⟨x0, y0, hbox⟩, im, him⟩ := hks k (List.mem_of_getElem? hk)
      obtain ⟨ikw, ikh, ikn, l, hl⟩ := (hi.im him)
      obtain ⟨iw, ih, ib, nn, ic⟩ := im
      obtain rfl : iw = 8 := ikw
      obtain rfl : ih = 8 := ikh
      obtain rfl : nn = 64 := ikn
      obtain ⟨kg, rfl⟩ := hv.some_ (by have := hv.le; dsimp only at this ⊢; omega)
      repeat' ((conv => whnf); first | (intro h; first | exact absurd h (by decide) | exact Bool.noConfusion h) | (exfalso; have := ‹decide _ = false›; simp at this; omega) | refine And.intro ?_ ?_ | intro _ | refine ret_q ?_ | exact RegOK.mk (by kernel_rfl) | (refine ⟨_, Dat.rdAt (a := ⟨c, 0, none⟩) (cs := cCa r b n cap) (Dat.mv (Dat.mv hc l1) l2) 1 rfl, ?_⟩) | (refine ⟨_, rfl, ⟨by omega, by omega⟩, ?_⟩) | (refine ⟨cKy k, rd_row 0 (i * 2) rfl (flatMap_at (enc := cKy) (size := 2) (fun _ => rfl) hk), rfl, ?_⟩) | (refine r_lookup2S (ek := vKy) (ev := eIm) (MapD.rd (stb_later l2 _ (stb_later l1 _ hmp))) mt186 key194 zo143 k rfl _ him ?_) | refine call_q (tBoxB_q _ _ _ _ _ _ hbox.box) ?_ | refine call_q (MeetB_q _ _ _ _ _ _ _ _ _ _ _ _ hbox.meet) ?_ | fail)
      all_goals
        refine loop_o TT_ok mix (ι := Nat × List Value) (fun j => [(17, .one (.v (ip (y0 + j.1))))]) (fun j => [rowP 194 2 (some ⟨kg, 0, none⟩) 4 kc (ks.flatMap cKy), rowP 43 4 (some ⟨g, 0, none⟩) 256 256 j.2]) (fun j => j.1 ≤ 8 ∧ j.2.length = 1024) (fun j => 8 - j.1) (0, xs) ⟨⟨⟨Nat.zero_le _, hxs⟩, ⟨congrArg (fun z => AV.one (.v (ip z))) (by simp : y0 = y0 + ((0 : Nat) : Int)), trivial⟩⟩, ⟨_, rfl⟩⟩ (fun _ => ⟨⟨rfl, rfl⟩, rfl⟩) ?_
        rintro ⟨j, ys⟩ ⟨hj8, hys⟩
        by_cases hjl : j < 8
        · repeat' ((conv => whnf); first | (exfalso; have := ‹decide _ = false›; simp at this; omega) | refine And.intro ?_ ?_ | intro _ | refine ret_q ?_ | exact RegOK.mk (by kernel_rfl) | (exfalso; done) | fail)
          refine loop_o TT_ok mix (ι := Nat × List Value) (fun q => [(18, .one (.v (ip (x0 + q.1))))]) (fun q => [rowP 194 2 (some ⟨kg, 0, none⟩) 4 kc (ks.flatMap cKy), rowP 43 4 (some ⟨g, 0, none⟩) 256 256 q.2]) (fun q => q.1 ≤ 8 ∧ q.2.length = 1024) (fun q => 8 - q.1) (0, ys) ⟨⟨⟨Nat.zero_le _, hys⟩, ⟨congrArg (fun z => AV.one (.v (ip z))) (by simp : x0 = x0 + ((0 : Nat) : Int)), trivial⟩⟩, ⟨_, rfl⟩⟩ (fun _ => ⟨⟨rfl, rfl⟩, rfl⟩) ?_
          rintro ⟨q, zs⟩ ⟨hq8, hzs⟩
          by_cases hql : q < 8
          · have hx := hbox.x
            have hy := hbox.y
            have ex : IntKind.i64.wrap (x0 + (q : Int) - x0) = (q : Int) := by rw [i64_id (by omega)]; omega
            have ey : IntKind.i64.wrap (y0 + (j : Int) - y0) = (j : Int) := by rw [i64_id (by omega)]; omega
            have hll : l.length = 64 := hl.len
            obtain ⟨p, hp⟩ : ∃ p, l[j * 8 + q]? = some p := ⟨l[j * 8 + q]'(by omega), List.getElem?_eq_getElem _⟩
            have hhas : (Bx.mk 0 0 8 8).has (IntKind.i64.wrap (x0 + (q : Int) - x0)) (IntKind.i64.wrap (y0 + (j : Int) - y0)) = true := by rw [ex, ey]; simp [Bx.has]; omega
            have hat : W (W (IntKind.i64.wrap (y0 + (j : Int) - y0) * 8) + IntKind.i64.wrap (x0 + (q : Int) - x0)) = ((j * 8 + q : Nat) : Int) := by rw [ex, ey]; simp only [W]; rw [i64_id (x := (j : Int) * 8) (by omega), i64_id (x := (j : Int) * 8 + (q : Int)) (by omega)]; omega
            have eidx : IntKind.i64.wrap (IntKind.i64.wrap (IntKind.i64.wrap (IntKind.i64.wrap (y0 + (j : Int) - 0) * 16) + (x0 + (q : Int))) - px) = (y0 + j) * 16 + (x0 + q) - px := by
              rw [i64_id (x := y0 + (j : Int) - 0) (by omega), i64_id (x := (y0 + (j : Int) - 0) * 16) (by omega), i64_id (x := (y0 + (j : Int) - 0) * 16 + (x0 + (q : Int))) (by omega), i64_id (by omega)]; omega
            have hb1 : 0 ≤ IntKind.i64.wrap (IntKind.i64.wrap (IntKind.i64.wrap (IntKind.i64.wrap (y0 + (j : Int) - 0) * 16) + (x0 + (q : Int))) - px) := by rw [eidx]; omega
            have hb2 : IntKind.i64.wrap (IntKind.i64.wrap (IntKind.i64.wrap (IntKind.i64.wrap (y0 + (j : Int) - 0) * 16) + (x0 + (q : Int))) - px) < (((16 * 16 : Int).toNat : Nat) : Int) := by
              rw [eidx]
              have : (((16 * 16 : Int).toNat : Nat) : Int) = 256 := by decide
              omega
            have hst : (IntKind.i64.wrap (IntKind.i64.wrap (IntKind.i64.wrap (IntKind.i64.wrap (y0 + (j : Int) - 0) * 16) + (x0 + (q : Int))) - px)).toNat * 4 + 4 ≤ zs.length := by
              rw [eidx]; have : zs.length = 1024 := hzs; omega
            have hnx : IntKind.i64.wrap (x0 + (q : Int) + 1) = x0 + ((q + 1 : Nat) : Int) := by rw [i64_id (by omega)]; omega
            repeat' ((conv => whnf); first | (exfalso; have := ‹decide _ = false›; simp at this; omega) | refine And.intro ?_ ?_ | intro _ | refine ret_q ?_ | exact RegOK.mk (by kernel_rfl) | (refine call_c (fun w' _ h2 => At152_r w' 8 8 ib 64 ic l (stb_later h2 _ (stb_later l2 _ (stb_later l1 _ hl))) _ _ hhas (j * 8 + q) hat p hp) ?_) | (refine ⟨_, rfl, ⟨hb1, hb2⟩, ?_⟩) | (refine r_store 1 _ rfl rfl (by decide) (by show 0 < 4; decide) sz43 (by simp [Value.cells, Value.oneCell']) hst rfl ?_) | (refine ⟨(q + 1, _), ?_, ⟨congrArg (fun z => AV.one (.v (ip z))) hnx, trivial⟩, rfl, rfl, ⟨_, rfl⟩, ⟨_, rfl⟩, ⟨_, rfl⟩, rfl⟩) | fail)
            all_goals exact ⟨⟨by dsimp only; omega, (spl_length (ys := [u8 p.r, u8 p.g, u8 p.b, u8 p.a]) hst).trans hzs⟩, by dsimp only; omega⟩
          · repeat' ((conv => whnf); first | (exfalso; have := ‹decide _ = true›; simp at this; omega) | refine And.intro ?_ ?_ | intro _ | refine ret_q ?_ | exact RegOK.mk (by kernel_rfl) | (refine ⟨(j + 1, zs), ?_, ⟨congrArg (fun z => AV.one (.v (ip z))) (ipJ hjl (by have := hbox.y; omega)), trivial⟩, rfl, rfl, ⟨_, rfl⟩, ⟨_, rfl⟩, ⟨_, rfl⟩, rfl⟩) | fail)
            all_goals exact ⟨⟨by dsimp only; omega, hzs⟩, by dsimp only; omega⟩
        · repeat' ((conv => whnf); first | (exfalso; have := ‹decide _ = true›; simp at this; omega) | refine And.intro ?_ ?_ | intro _ | refine ret_q ?_ | exact RegOK.mk (by kernel_rfl) | (refine ⟨(i + 1, ys), ?_, ⟨congrArg (fun z => AV.one (.v (ip z))) (ipS hlt (by omega)), trivial⟩, rfl, rfl, ⟨_, rfl⟩, ⟨_, rfl⟩, ⟨_, rfl⟩, rfl⟩) | fail)
          all_goals exact ⟨⟨by dsimp only; omega, hys⟩, by dsimp only; omega⟩
    · repeat' ((conv => whnf); first | (exfalso; have := ‹decide _ = true›; simp at this; omega) | refine And.intro ?_ ?_ | intro _ | refine ret_q ?_ | exact RegOK.mk (by kernel_rfl) | (refine ret_f (_) rfl rfl fun w' E' hl rel => Pv.go ?_) | fail)
      exact ⟨trivial⟩
end Go.Ev

