/- Contracts of single functions: a cache of tiles; conditions: none. -/
import Derived.Test.YtojhoeogikdjoaaGreatDoorF3
set_option linter.unusedSimpArgs false
set_option linter.unusedVariables false
set_option maxRecDepth 10000
namespace Go.Ev
open Go.Proofs Go.RowKit

theorem fl194 : flatK Tryz.prog 194 = some [.i .i64, .i .i64] := by kernel_rfl
theorem eqKy (a b : Ky) : eqvL (cKy a) (cKy b) = decide (a = b) := by
  cases a; cases b; rw [Bool.eq_iff_iff]; simp [cKy, eqvL, eqv1]
theorem key194 : KeyOK Tryz.prog 194 vKy := keyOK_flat fl194 (fun _ => rfl) eqKy
/-- An image in a map. -/
structure Im where
  w : Int
  h : Int
  b : Option Addr
  n : Nat
  c : Nat
abbrev eIm (m : Im) : Value := vIm m.w m.h m.b m.n m.c
/-- A tile's image. -/
structure ImD (m : Im) (W : World) (E : Nat → Prop) : Prop where
  w : m.w = 8
  h : m.h = 8
  n : m.n = 64
  l : ∃ l, Sl tyCo m.b m.n m.c l W E
instance (m : Im) : Stb (ImD m) := ⟨fun h hl => ⟨h.w, h.h, h.n, by obtain ⟨l, hs⟩ := h.l; exact ⟨l, stb_later hl _ hs⟩⟩⟩
structure ImsD (kvs : List (Ky × Im × Nat)) (W : World) (E : Nat → Prop) : Prop where
  all : ∀ e ∈ kvs, ImD e.2.1 W E
instance (kvs : List (Ky × Im × Nat)) : Stb (ImsD kvs) := ⟨fun h hl => ⟨fun e he => stb_later hl _ (h.all e he)⟩⟩


theorem tileNew_f (w : World) (X : Nat → Prop) : Cf Tryz.prog 63 [ip 256] w X [] (ι := Nat × Nat) (fun i => .pointer (some ⟨i.1, 0, none⟩)) (fun i => [structP 189 i.1 [ip 256, .map (some i.2), .slice none 0 0], mapP i.2 vKy eIm [] 0]) (fun _ _ _ => True) := by
  refine cf_of_ev TT_ok mix Tryz.func63 (by kernel_rfl) rfl fun M hM => ?_
  repeat' ((conv => whnf); first | (intro h; first | exact absurd h (by decide) | exact Bool.noConfusion h) | refine And.intro ?_ ?_ | intro _ | refine ret_q ?_ | exact RegOK.mk (by kernel_rfl) | refine r_makeMap vKy eIm ?_ | (refine ret_t (_, _) 0 [_] rfl rfl rfl rfl rfl rfl fun _ _ _ _ => ?_) | (exact trivial) | fail)
abbrev cCa (r : Nat) (b : Option Addr) (n cap : Nat) : List Value := [ip 256, .map (some r), .slice b n cap]
abbrev ptr (n : Nat) : Value := .pointer (some ⟨n, 0, none⟩)
theorem Clear_f (w : World) (X : Nat → Prop) (c r : Nat) (b : Option Addr) (n cap : Nat) (kvs : List (Ky × Im × Nat)) (clock : Nat) : Cf Tryz.prog 65 [ptr c] w X [structP 189 c (cCa r b n cap), mapP r vKy eIm kvs clock]
    (ι := Unit) (fun _ => .tuple #[]) (fun _ => [structP 189 c (cCa r none 0 0), mapP r vKy eIm [] clock]) (fun _ _ _ => True) := by
  refine cf_of_evt TT_ok mix Tryz.func65 (by kernel_rfl) rfl [.one (.p 0 0)] (by first | exact ⟨rfl, trivial⟩ | exact ⟨rfl, ofVal_R _ _, trivial⟩ | exact ⟨rfl, ofVal_R _ _, ofVal_R _ _, trivial⟩ | exact ⟨rfl, ofVal_R _ _, ofVal_R _ _, ofVal_R _ _, trivial⟩ | exact ⟨rfl, rfl, trivial⟩ | exact ⟨rfl, rfl, rfl, trivial⟩ | (simp [TR, AV.R, Lf.R, LR]; done)) fun M hX => ?_
  repeat' ((conv => whnf); first | refine And.intro ?_ ?_ | intro _ | refine ret_q ?_ | exact RegOK.mk (by kernel_rfl) | (refine r_clear (ek := vKy) (ev := eIm) 0 rfl rfl mt186 rfl ?_) | (refine ret_t () 0 [_] rfl rfl rfl rfl rfl rfl fun _ _ _ _ => ?_) | (exact trivial) | fail)
theorem gone1_r (w : World) (x k : Ky) (n : Nat) (h : Dat w NoE ⟨n, 0, none⟩ (cKy k)) : Cr Tryz.prog 188 [vKy x, ptr n] w (.bool (decide (x = k))) := by
  refine cr_of_ev TT_ok mix Tryz.func188 (by kernel_rfl) rfl ?_
  repeat' ((conv => whnf); first | refine And.intro ?_ ?_ | intro _ | refine ret_q ?_ | exact RegOK.mk (by kernel_rfl) | (refine ⟨_, h.rd0, rfl, ?_⟩) | (refine eq_flatD fl194 rfl rfl (eqKy x k) ?_) | fail)
  rfl
theorem DeleteFunc_r (w : World) (b : Option Addr) (n c : Nat) (l : List Ky) (g : Nat) (cs : Array Value) (p : Ky → Bool) (h : Sl tyKy b n c l w NoE) (hn : n < 9223372036854775807)
    (hp : ∀ x w', x ∈ l → Later w NoE w' NoE → Cv Tryz.prog (.func (.func g) #[] cs) [vKy x] w' (.bool (p x))) (hf : ∀ x ∈ l, p x = false) : Cr Tryz.prog 187 [.slice b n c, .func (.func g) #[] cs] w (.slice b n c) := by
  have e : idxI p l = -1 := idxI_none fun j x hx => hf x (List.mem_of_getElem? hx)
  refine cr_of_ev TT_ok mix Tryz.func187 (by kernel_rfl) rfl ?_
  repeat' ((conv => whnf); first | (intro h; rw [e] at h; exact absurd h (by decide)) | refine And.intro ?_ ?_ | intro _ | refine ret_q ?_ | exact RegOK.mk (by kernel_rfl) | refine call_c (fun w' _ hl => IndexFunc230_r w' b n c l g cs p (stb_later hl _ h) hn fun x w2 hx h2 => hp x w2 hx (hl.trans h2)) ?_ | fail)
  rfl

theorem gone_f (w : World) (X : Nat → Prop) (c r : Nat) (b : Option Addr) (n cap : Nat) (kvs : List (Ky × Im × Nat)) (clock : Nat) (order : List Ky) (k : Ky) (hk : k ∉ order) (hk' : k ∉ kvs.map (·.1)) (hn : n < 9223372036854775807) :
    Cf Tryz.prog 140 [ptr c, vKy k] w X [structP 189 c (cCa r b n cap), mapP r vKy eIm kvs clock, rowP 194 2 b n cap (order.flatMap cKy)]
    (ι := Unit) (fun _ => .tuple #[]) (fun _ => [structP 189 c (cCa r b n cap), mapP r vKy eIm kvs clock, rowP 194 2 b n cap (order.flatMap cKy)]) (fun _ _ _ => True) := by
  refine cf_of_evt TT_ok mix Tryz.func140 (by kernel_rfl) rfl [.one (.p 0 0), ofVal (vKy k)] (by first | exact ⟨rfl, trivial⟩ | exact ⟨rfl, ofVal_R _ _, trivial⟩ | exact ⟨rfl, ofVal_R _ _, ofVal_R _ _, trivial⟩ | exact ⟨rfl, ofVal_R _ _, ofVal_R _ _, ofVal_R _ _, trivial⟩ | exact ⟨rfl, rfl, trivial⟩ | exact ⟨rfl, rfl, rfl, trivial⟩ | (simp [TR, AV.R, Lf.R, LR]; done)) fun M hX => ?_
  repeat' ((conv => whnf); first | refine And.intro ?_ ?_ | intro _ | refine ret_q ?_ | exact RegOK.mk (by kernel_rfl) | (refine r_delete0 (ek := vKy) (ev := eIm) 0 rfl rfl mt186 key194 k rfl rfl hk' ?_) | (refine call_c (fun w' hm hl => DeleteFunc_r w' b n cap order 188 #[_] (fun x => decide (x = k)) (sl_rowF tyKy cKy (fun _ _ _ => rfl) 1 hm rfl rfl) hn (fun x w2 hx h2 => (gone1_r w2 x k _ (((rd_tag 1 rfl rfl rfl rfl : RdAt _ _ (cKy k)).dat hm).mv h2)).closure) (fun x hx => by simp; rintro rfl; exact hk hx)) ?_) | (refine ret_t () 0 [_, _] rfl rfl rfl rfl rfl rfl fun _ _ _ _ => ?_) | (exact trivial) | fail)
/-- A row of pixels, whatever they are. -/
structure HasSl (b : Option Addr) (n c : Nat) (W : World) (E : Nat → Prop) : Prop where
  le : n ≤ 1000000000
  l : ∃ l, Sl tyCo b n c l W E
instance (b : Option Addr) (n c : Nat) : Stb (HasSl b n c) := ⟨fun h hl => ⟨h.le, by obtain ⟨l, hs⟩ := h.l; exact ⟨l, stb_later hl _ hs⟩⟩⟩
theorem HasSl.nil (W : World) (E : Nat → Prop) : HasSl none 0 0 W E := ⟨by omega, [], Sl.nil_ _ _ _ (fun _ => rfl) _ _⟩
theorem ImsD.has {kvs : List (Ky × Im × Nat)} {W : World} {E : Nat → Prop} (h : ImsD kvs W E) {k : Ky} {v : Im} (hk : lk k kvs = some v) : HasSl v.b v.n v.c W E := by
  unfold lk at hk
  obtain ⟨e, he, rfl⟩ := Option.map_eq_some_iff.1 hk
  have := h.all e (List.mem_of_find?_eq_some he)
  exact ⟨by rw [this.n]; omega, this.l⟩
theorem copiedE_f (w0 : World) (X : Nat → Prop) (w h : Int) (b : Option Addr) (n c : Nat) (hs : HasSl b n c w0 X) :
    Cf Tryz.prog 146 [vIm w h b n c] w0 X [] (ι := Option Addr × Nat) (fun i => vIm w h i.1 n i.2) (fun _ => []) (fun i => HasSl i.1 n i.2) := by
  obtain ⟨hn, l, hs⟩ := hs
  refine ⟨fun fp ho => ?_⟩
  refine ((copied146_f w0 X w h b n c l hs hn).go fp ho).mono ?_
  rintro v w' ⟨i, fp', h1, h2, h3, h4⟩
  exact ⟨i, fp', h1, h2, h3, hn, l, h4⟩
theorem Get_f (w : World) (X : Nat → Prop) (c r : Nat) (b : Option Addr) (n cap : Nat) (kvs : List (Ky × Im × Nat)) (clock : Nat) (x y : Int) (hi : ImsD kvs w X) (ok : Bool) (hok : (lk ⟨x, y⟩ kvs).isSome = ok) :
    Cf Tryz.prog 106 [ptr c, .agg #[ip x, ip y]] w X [structP 189 c (cCa r b n cap), mapP r vKy eIm kvs clock]
    (ι := Int × Int × Option Addr × Nat × Nat) (fun i => .tuple #[vIm i.1 i.2.1 i.2.2.1 i.2.2.2.1 i.2.2.2.2, .bool ok]) (fun _ => [structP 189 c (cCa r b n cap), mapP r vKy eIm kvs clock]) (fun _ _ _ => True) := by
  have hi := stE hi
  cases ok with
  | true =>
    refine cf_of_evt TT_ok mix Tryz.func106 (by kernel_rfl) rfl [.one (.p 0 0), ofVal (.agg #[ip x, ip y])] (by first | exact ⟨rfl, trivial⟩ | exact ⟨rfl, ofVal_R _ _, trivial⟩ | exact ⟨rfl, ofVal_R _ _, ofVal_R _ _, trivial⟩ | exact ⟨rfl, ofVal_R _ _, ofVal_R _ _, ofVal_R _ _, trivial⟩ | exact ⟨rfl, rfl, trivial⟩ | exact ⟨rfl, rfl, rfl, trivial⟩ | (simp [TR, AV.R, Lf.R, LR]; done)) fun M hX => ?_
    repeat' ((conv => whnf); first | refine And.intro ?_ ?_ | intro _ | refine ret_q ?_ | exact RegOK.mk (by kernel_rfl) | (refine r_lookup2 (ek := vKy) (ev := eIm) (rd_map 0 rfl) mt186 key194 zo143 ⟨x, y⟩ rfl (fun v hv => ?_) (fun hv => ?_)) | (refine call_n (fun w' X' _ hl => copiedE_f w' X' _ _ _ _ _ (stb_later hl _ (hi.has hv))) ?_) | (refine call_n (fun w' X' _ hl => copiedE_f w' X' _ _ _ _ _ (HasSl.nil _ _)) ?_) | (refine ret_t (_, _, _, _, _) 0 [_] rfl rfl rfl rfl rfl rfl fun _ _ _ _ => ?_) | (exact trivial) | (exfalso; rw [hv] at hok; cases hok; done) | fail)
  | false =>
    refine cf_of_evt TT_ok mix Tryz.func106 (by kernel_rfl) rfl [.one (.p 0 0), ofVal (.agg #[ip x, ip y])] (by first | exact ⟨rfl, trivial⟩ | exact ⟨rfl, ofVal_R _ _, trivial⟩ | exact ⟨rfl, ofVal_R _ _, ofVal_R _ _, trivial⟩ | exact ⟨rfl, ofVal_R _ _, ofVal_R _ _, ofVal_R _ _, trivial⟩ | exact ⟨rfl, rfl, trivial⟩ | exact ⟨rfl, rfl, rfl, trivial⟩ | (simp [TR, AV.R, Lf.R, LR]; done)) fun M hX => ?_
    repeat' ((conv => whnf); first | refine And.intro ?_ ?_ | intro _ | refine ret_q ?_ | exact RegOK.mk (by kernel_rfl) | (refine r_lookup2 (ek := vKy) (ev := eIm) (rd_map 0 rfl) mt186 key194 zo143 ⟨x, y⟩ rfl (fun v hv => ?_) (fun hv => ?_)) | (refine call_n (fun w' X' _ hl => copiedE_f w' X' _ _ _ _ _ (stb_later hl _ (hi.has hv))) ?_) | (refine call_n (fun w' X' _ hl => copiedE_f w' X' _ _ _ _ _ (HasSl.nil _ _)) ?_) | (refine ret_t (_, _, _, _, _) 0 [_] rfl rfl rfl rfl rfl rfl fun _ _ _ _ => ?_) | (exact trivial) | (exfalso; rw [hv] at hok; cases hok; done) | fail)
theorem Put_f (w : World) (X : Nat → Prop) (c r : Nat) (b : Option Addr) (n cap : Nat) (kvs : List (Ky × Im × Nat)) (clock : Nat) (order : List Ky) (x y : Int) (ib : Option Addr) (ic : Nat)
    (hl : Sl tyCo ib 64 ic (List.replicate 64 ⟨0, 0, 0, 0⟩) w X) (hk : (⟨x, y⟩ : Ky) ∉ order) (hk' : (⟨x, y⟩ : Ky) ∉ kvs.map (·.1)) (hn : n < 200) (hr : (Ky.mk x y).right = true) :
    Cf Tryz.prog 109 [ptr c, .agg #[ip x, ip y], vIm 8 8 ib 64 ic] w X [structP 189 c (cCa r b n cap), mapP r vKy eIm kvs clock, rowP 194 2 b n cap (order.flatMap cKy)]
    (ι := Option Addr × Nat × Option Addr × Nat) (fun _ => ip 0) (fun i => [structP 189 c (cCa r i.1 (n + 1) i.2.1), mapP r vKy eIm (kvs ++ [(⟨x, y⟩, ⟨8, 8, i.2.2.1, 64, i.2.2.2⟩, clock)]) (clock + 1), rowP 194 2 i.1 (n + 1) i.2.1 ((order ++ [(⟨x, y⟩ : Ky)]).flatMap cKy)])
    (fun i W E => RowV i.1 (n + 1) i.2.1 ∧ ImD ⟨8, 8, i.2.2.1, 64, i.2.2.2⟩ W E) := by
  have hl := stE hl
  have hok : imgOK 8 8 64 (List.replicate 64 ⟨0, 0, 0, 0⟩) = true := by decide
  refine cf_of_evt TT_ok mix Tryz.func109 (by kernel_rfl) rfl [.one (.p 0 0), ofVal (.agg #[ip x, ip y]), ofVal (vIm 8 8 ib 64 ic)] (by first | exact ⟨rfl, trivial⟩ | exact ⟨rfl, ofVal_R _ _, trivial⟩ | exact ⟨rfl, ofVal_R _ _, ofVal_R _ _, trivial⟩ | exact ⟨rfl, ofVal_R _ _, ofVal_R _ _, ofVal_R _ _, trivial⟩ | exact ⟨rfl, rfl, trivial⟩ | exact ⟨rfl, rfl, rfl, trivial⟩ | (simp [TR, AV.R, Lf.R, LR]; done)) fun M hX => ?_
  repeat' ((conv => whnf); first | (intro h; first | exact absurd h (by decide) | exact Bool.noConfusion h) | refine And.intro ?_ ?_ | intro _ | refine ret_q ?_ | exact RegOK.mk (by kernel_rfl) | refine call_q (Kright_q _ _) ?_ | (refine call_c (fun w' _ h2 => ImgCheck_r w' 8 8 ib 64 ic _ (stb_later h2 _ hl) (by omega)) ?_) | (refine call_t 0 [_, _] (fun _ => (cCa r b n cap).map .v) rfl rfl rfl rfl (fun _ => @And.intro (_ = _) (LR _ _ _) rfl (LR.of_v _)) (fun w' X' _ h2 => gone_f w' X' c r b n cap kvs clock order ⟨x, y⟩ hk hk' (by omega)) rfl ?_; intro _ w1 E1 _ l1) | (refine call_n (fun w' X' _ h2 => copied146_f w' X' 8 8 ib 64 ic (List.replicate 64 ⟨0, 0, 0, 0⟩) (stb_later h2 _ (by repeat (first | assumption | refine Dat.mv ?_ (by assumption) | refine stb_later (by assumption) _ ?_))) (by omega)) ?_; intro i2 w2 E2 s2 l2) | (refine r_insert (ek := vKy) (ev := eIm) 0 rfl mt186 key194 ⟨x, y⟩ ⟨8, 8, _, 64, _⟩ rfl rfl rfl hk' ?_) | (refine r_append 1 rfl rt187 (fun a0 e => by cases e; exact rd_tag 3 rfl rfl rfl rfl) nofun (news := cKy ⟨x, y⟩) rfl (by simp [Value.oneCell']) ⟨by omega, by simp only [maxLen]; omega⟩ rfl rfl (xs' := (order ++ [(⟨x, y⟩ : Ky)]).flatMap cKy) (by simp) ?_; intro b' cap' hv) | (exfalso; have := ‹decide _ = true›; simp at this; omega) | (refine ret_t ((_, _, _, _)) 0 [_, _] rfl rfl rfl rfl rfl rfl fun w' E' hl rel => Pv.go ?_) | (exfalso; simp_all; done) | fail)
  exact ⟨hv, ⟨rfl, rfl, rfl, _, stb_later hl _ s2⟩⟩

theorem Clone186_f (w : World) (X : Nat → Prop) (b : Option Addr) (n c : Nat) (l : List Ky) (h : Sl tyKy b n c l w X) (hn : n ≤ 1000000000) :
    Cf Tryz.prog 186 [.slice b n c] w X [] (ι := Option Addr × Nat) (fun i => .slice i.1 n i.2) (fun i => [rowP 194 2 i.1 n i.2 (l.flatMap cKy)]) (fun i _ _ => RowV i.1 n i.2) := by
  cases b with
  | none =>
    obtain rfl : c = 0 := h.nil rfl
    obtain rfl : n = 0 := Nat.le_zero.1 h.le
    obtain rfl : l = [] := List.eq_nil_of_length_eq_zero h.len
    refine cf_of_ev TT_ok mix Tryz.func186 (by kernel_rfl) rfl fun M hM => ?_
    repeat' ((conv => whnf); first | (intro h; first | exact absurd h (by decide) | exact Bool.noConfusion h) | refine And.intro ?_ ?_ | intro _ | refine ret_q ?_ | exact RegOK.mk (by kernel_rfl) | (refine ret_row 194 2 none ?_; refine ret_f (none, 0) rfl rfl fun w' E' hl rel => Pv.go ?_) | fail)
    exact ⟨RowV.nil none⟩
  | some ad =>
    obtain ⟨h1, h2, h3⟩ := Sl.rowsF (enc := cKy) (fun _ _ _ _ h => h) (stE h)
    refine cf_of_ev TT_ok mix Tryz.func186 (by kernel_rfl) rfl fun M hM => ?_
    repeat' ((conv => whnf); first | (intro h; first | exact absurd h (by decide) | exact Bool.noConfusion h) | refine And.intro ?_ ?_ | intro _ | refine ret_q ?_ | exact RegOK.mk (by kernel_rfl) | (refine r_appendN rt187 (rd_cells (h3 ad rfl)) h2 h1 ⟨by omega, by simp only [maxLen]; omega⟩ ?_) | (refine ret_f ((_, _)) rfl rfl fun w' E' hl rel => Pv.go ?_) | fail)
    exact ⟨by assumption⟩
theorem All_f (w : World) (X : Nat → Prop) (c r : Nat) (b : Option Addr) (n cap : Nat) (order : List Ky) (hn : n ≤ 1000000000) :
    Cf Tryz.prog 138 [ptr c] w X [structP 189 c (cCa r b n cap), rowP 194 2 b n cap (order.flatMap cKy)] (ι := Option Addr × Nat) (fun i => .slice i.1 n i.2)
    (fun i => [structP 189 c (cCa r b n cap), rowP 194 2 b n cap (order.flatMap cKy), rowP 194 2 i.1 n i.2 (order.flatMap cKy)]) (fun i _ _ => RowV i.1 n i.2) := by
  refine cf_of_evt TT_ok mix Tryz.func138 (by kernel_rfl) rfl [.one (.p 0 0)] (by first | exact ⟨rfl, trivial⟩ | exact ⟨rfl, ofVal_R _ _, trivial⟩ | exact ⟨rfl, ofVal_R _ _, ofVal_R _ _, trivial⟩ | exact ⟨rfl, ofVal_R _ _, ofVal_R _ _, ofVal_R _ _, trivial⟩ | exact ⟨rfl, rfl, trivial⟩ | exact ⟨rfl, rfl, rfl, trivial⟩ | (simp [TR, AV.R, Lf.R, LR]; done)) fun M hX => ?_
  repeat' ((conv => whnf); first | refine And.intro ?_ ?_ | intro _ | refine ret_q ?_ | exact RegOK.mk (by kernel_rfl) | (refine call_rn (fun w' hm hl => Clone186_f w' NoE b n cap order (sl_rowF tyKy cKy (fun _ _ _ => rfl) 0 hm rfl rfl) hn) (fun i _ _ h => h) ?_; intro i hi) | (refine ret_t ((_, _)) 0 [_, _] rfl rfl rfl rfl rfl rfl fun w' E' hl rel => Pv.go ?_) | fail)
  exact ⟨hi⟩
theorem EmptyB_q (a b c d : Int) (v : Bool) (h : (Bx.mk a b c d).empty = v) : Cq Tryz.prog 53 [.agg #[ip a, ip b, ip c, ip d]] (.bool v) := by rw [← h]; exact Empty_q a b c d
theorem meet_zero (b : Bx) : (b.meet ⟨0, 0, 0, 0⟩).empty = true := by
  unfold Bx.meet
  split
  · rfl
  · rename_i h
    simp [Bx.empty, Bx.meet0, mx, mn] at h
    split at h <;> split at h <;> omega
theorem Drop_f (w : World) (X : Nat → Prop) (c r : Nat) (b : Option Addr) (n cap : Nat) (order : List Ky) (hn : n ≤ 1000000000) (hlen : order.length = n) :
    Cf Tryz.prog 100 [ptr c, vBx ⟨0, 0, 0, 0⟩] w X [structP 189 c (cCa r b n cap), rowP 194 2 b n cap (order.flatMap cKy)] (ι := Unit) (fun i => ip 0)
    (fun i => [structP 189 c (cCa r b n cap), rowP 194 2 b n cap (order.flatMap cKy)]) (fun i _ _ => True) := by
  refine cf_of_evt TT_ok mix Tryz.func100 (by kernel_rfl) rfl [.one (.p 0 0), ofVal (vBx ⟨0, 0, 0, 0⟩)] (by first | exact ⟨rfl, trivial⟩ | exact ⟨rfl, ofVal_R _ _, trivial⟩ | exact ⟨rfl, ofVal_R _ _, ofVal_R _ _, trivial⟩ | exact ⟨rfl, ofVal_R _ _, ofVal_R _ _, ofVal_R _ _, trivial⟩ | exact ⟨rfl, rfl, trivial⟩ | exact ⟨rfl, rfl, rfl, trivial⟩ | (simp [TR, AV.R, Lf.R, LR]; done)) fun M hX => ?_
  repeat' ((conv => whnf); first | refine And.intro ?_ ?_ | intro _ | refine ret_q ?_ | exact RegOK.mk (by kernel_rfl) | (refine call_t 0 [_] (fun _ => (cCa r b n cap).map .v) rfl rfl rfl rfl (fun _ => @And.intro (_ = _) (LR _ _ _) rfl (LR.of_v _)) (fun w' X' _ h2 => All_f w' X' c r b n cap order hn) rfl ?_; intro ⟨b1, c1⟩ w1 E1 hv l1) | fail)
  refine loop_s TT_ok mix (ι := Nat) (fun i => [(11, .one (.v (ip i))), (5, .one (.v (ip 0)))]) (fun i => i ≤ n) (fun i => n - i) (0) ⟨Nat.zero_le _, ⟨rfl, rfl, trivial⟩⟩ (fun _ => ⟨⟨rfl, rfl⟩, rfl⟩) ?_
  intro i hi
  by_cases hlt : i < n
  · obtain ⟨x, hx⟩ : ∃ x, order[i]? = some x := ⟨order[i]'(by rw [hlen]; exact hlt), List.getElem?_eq_getElem _⟩
    obtain ⟨g, rfl⟩ := hv.some_ (by have := hv.le; dsimp only at this ⊢; omega)
    repeat' ((conv => whnf); first | (intro h; first | exact absurd h (by decide) | exact Bool.noConfusion h) | (exfalso; have := ‹decide _ = false›; simp at this; omega) | refine And.intro ?_ ?_ | intro _ | refine ret_q ?_ | exact RegOK.mk (by kernel_rfl) | (refine ⟨_, rfl, ⟨by omega, by omega⟩, ?_⟩) | (refine ⟨cKy x, rd_row 1 (i * 2) rfl (flatMap_at (enc := cKy) (size := 2) (fun _ => rfl) hx), rfl, ?_⟩) | refine call_q (tBox_q _ _) ?_ | refine call_q (Meet_q _ _ _ _ _ _ _ _) ?_ | refine call_q (EmptyB_q _ _ _ _ true (meet_zero _)) ?_ | (refine ⟨i + 1, ?_, ⟨congrArg (fun z => AV.one (.v (ip z))) (ipS hlt (by omega)), rfl, trivial⟩, rfl, rfl, ⟨_, rfl⟩, ⟨_, rfl⟩, ⟨_, rfl⟩, rfl⟩) | fail)
    exact ⟨by dsimp only; omega, by dsimp only; omega⟩
  · repeat' ((conv => whnf); first | (exfalso; have := ‹decide _ = true›; simp at this; omega) | refine And.intro ?_ ?_ | intro _ | refine ret_q ?_ | exact RegOK.mk (by kernel_rfl) | (refine ret_t (()) 0 [_] rfl rfl rfl rfl rfl rfl fun w' E' hl rel => Pv.go ?_) | fail)
    exact ⟨trivial⟩
end Go.Ev

