/- Contracts of single functions: searches through slices, images; conditions: none. -/
import Derived.Test.YtojhoeogikdjoaaGreatDoorF2
set_option linter.unusedSimpArgs false
set_option linter.unusedVariables false
set_option maxRecDepth 10000
namespace Go.Ev
open Go.Proofs Go.RowKit

abbrev cCo (c : Co) : List Value := [u8 c.r, u8 c.g, u8 c.b, u8 c.a]
abbrev tyCo : Ty Co := Ty.flat 4 cCo (by decide) (fun _ => rfl) (fun _ => by simp [Value.oneCell'])
/-- The first place where 'p' holds; -1: there is none. -/
def idxI {α : Type} (p : α → Bool) (l : List α) : Int := match l.findIdx? p with
  | some i => (i : Int)
  | none => -1

theorem idxI_none {α : Type} {p : α → Bool} {l : List α} (h : ∀ (j : Nat) (x : α), l[j]? = some x → p x = false) : idxI p l = -1 := by
  unfold idxI
  rw [List.findIdx?_eq_none_iff.2]
  intro x hx
  obtain ⟨j, hj, e⟩ := List.getElem_of_mem hx
  exact h j x (by rw [List.getElem?_eq_getElem hj, e])
theorem idxI_at {α : Type} {p : α → Bool} {l : List α} {i : Nat} {x : α} (hx : l[i]? = some x) (hp : p x = true) (h : ∀ (j : Nat) (y : α), j < i → l[j]? = some y → p y = false) : idxI p l = (i : Int) := by
  unfold idxI
  have hlt := (List.getElem?_eq_some_iff.1 hx).1
  rw [List.findIdx?_eq_some_iff_getElem.2 ⟨hlt, ?_, ?_⟩]
  · rw [← hp]; congr 1; rw [List.getElem?_eq_getElem hlt] at hx; simpa using hx
  · intro j hj
    have := h j _ hj (List.getElem?_eq_getElem (by omega))
    simpa using this

theorem ipS {i n : Nat} (h : i < n) (hn : n < 9223372036854775807) : IntKind.i64.wrap ((i : Int) + 1) = ((i + 1 : Nat) : Int) := by
  rw [i64_id (by omega)]; omega
theorem idxI_any {α : Type} (p : α → Bool) (l : List α) : decide (idxI p l ≥ 0) = l.any p := by
  unfold idxI
  cases e : l.findIdx? p with
  | none =>
    rw [List.findIdx?_eq_none_iff] at e
    simp
    exact e
  | some i =>
    obtain ⟨h1, h2, _⟩ := List.findIdx?_eq_some_iff_getElem.1 e
    simp
    exact ⟨_, List.getElem_mem h1, h2⟩
abbrev cKy (k : Ky) : List Value := [ip k.x, ip k.y]
abbrev tyKy : Ty Ky := Ty.flat 2 cKy (by decide) (fun _ => rfl) (fun _ => by simp [Value.oneCell'])
theorem IndexFunc240_r (w : World) (b : Option Addr) (n c : Nat) (l : List Co) (g : Nat) (cs : Array Value) (p : Co → Bool) (h : Sl tyCo b n c l w NoE) (hn : n < 9223372036854775807)
    (hp : ∀ x w', x ∈ l → Later w NoE w' NoE → Cv Tryz.prog (.func (.func g) #[] cs) [vCo x] w' (.bool (p x))) : Cr Tryz.prog 240 [.slice b n c, .func (.func g) #[] cs] w (ip (idxI p l)) := by
  refine cr_of_ev TT_ok mix Tryz.func240 (by kernel_rfl) rfl ?_
  repeat' ((conv => whnf); first | refine And.intro ?_ ?_ | intro _ | refine ret_q ?_ | exact RegOK.mk (by kernel_rfl) | fail)
  refine loop_g TT_ok mix (ι := Nat) (fun i => ⟨w, NoE, [], [], [], [(8, .one (.v (ip i)))]⟩) (fun i => i ≤ n ∧ ∀ (j : Nat) x, j < i → l[j]? = some x → p x = false) (fun i => n - i) (0) ⟨⟨Nat.zero_le _, fun j x hj => absurd hj (Nat.not_lt_zero _)⟩, ⟨rfl, trivial⟩, rfl, rfl, ⟨_, rfl⟩, ⟨_, rfl⟩, ⟨_, rfl⟩⟩ (fun _ => ⟨⟨rfl, rfl⟩, rfl⟩) ?_
  rintro i ⟨hi, hall⟩
  by_cases hlt : i < n
  · obtain ⟨x, hx⟩ : ∃ x, l[i]? = some x := ⟨l[i]'(by rw [h.len]; exact hlt), List.getElem?_eq_getElem _⟩
    obtain ⟨ad, cs', rfl, hd, rfl⟩ := h.get i x hx
    repeat' ((conv => whnf); first | (exfalso; have := ‹decide _ = false›; simp at this; omega) | refine And.intro ?_ ?_ | intro _ | refine ret_q ?_ | exact RegOK.mk (by kernel_rfl) | (refine ⟨_, rfl, ⟨by omega, by omega⟩, ?_⟩) | (refine ⟨_, hd.rd0, rfl, ?_⟩) | refine callv_c (fun w' _ hl => hp x w' (List.mem_of_getElem? hx) hl) ?_ | (refine ⟨i + 1, ?_, ⟨congrArg (fun z => AV.one (.v (ip z))) (ipS hlt hn), trivial⟩, rfl, rfl, ⟨_, rfl⟩, ⟨_, rfl⟩, ⟨_, rfl⟩, rfl⟩) | fail)
    · rw [idxI_at hx (by assumption) fun j y hj hy => hall j y hj hy]
    · refine ⟨⟨by omega, fun j y hj hy => ?_⟩, by dsimp only; omega⟩
      by_cases e : j = i
      · subst e; rw [hx] at hy; cases hy; assumption
      · exact hall j y (by omega) hy
  · repeat' ((conv => whnf); first | refine And.intro ?_ ?_ | intro _ | refine ret_q ?_ | exact RegOK.mk (by kernel_rfl) | (exfalso; have := ‹decide _ = true›; simp at this; omega) | fail)
    rw [idxI_none fun j x hx => hall j x (by have := (List.getElem?_eq_some_iff.1 hx).1; have := h.len; omega) hx]
theorem ContainsFunc200_r (w : World) (b : Option Addr) (n c : Nat) (l : List Co) (g : Nat) (cs : Array Value) (p : Co → Bool) (h : Sl tyCo b n c l w NoE) (hn : n < 9223372036854775807)
    (hp : ∀ x w', x ∈ l → Later w NoE w' NoE → Cv Tryz.prog (.func (.func g) #[] cs) [vCo x] w' (.bool (p x))) : Cr Tryz.prog 200 [.slice b n c, .func (.func g) #[] cs] w (.bool (l.any p)) := by
  refine cr_of_ev TT_ok mix Tryz.func200 (by kernel_rfl) rfl ?_
  repeat' ((conv => whnf); first | refine And.intro ?_ ?_ | intro _ | refine ret_q ?_ | exact RegOK.mk (by kernel_rfl) | refine call_c (fun w' _ hl => IndexFunc240_r w' b n c l g cs p (stb_later hl _ h) hn fun x w2 hx h2 => hp x w2 hx (hl.trans h2)) ?_ | fail)
  rw [idxI_any]
theorem IndexFunc230_r (w : World) (b : Option Addr) (n c : Nat) (l : List Ky) (g : Nat) (cs : Array Value) (p : Ky → Bool) (h : Sl tyKy b n c l w NoE) (hn : n < 9223372036854775807)
    (hp : ∀ x w', x ∈ l → Later w NoE w' NoE → Cv Tryz.prog (.func (.func g) #[] cs) [vKy x] w' (.bool (p x))) : Cr Tryz.prog 230 [.slice b n c, .func (.func g) #[] cs] w (ip (idxI p l)) := by
  refine cr_of_ev TT_ok mix Tryz.func230 (by kernel_rfl) rfl ?_
  repeat' ((conv => whnf); first | refine And.intro ?_ ?_ | intro _ | refine ret_q ?_ | exact RegOK.mk (by kernel_rfl) | fail)
  refine loop_g TT_ok mix (ι := Nat) (fun i => ⟨w, NoE, [], [], [], [(8, .one (.v (ip i)))]⟩) (fun i => i ≤ n ∧ ∀ (j : Nat) x, j < i → l[j]? = some x → p x = false) (fun i => n - i) (0) ⟨⟨Nat.zero_le _, fun j x hj => absurd hj (Nat.not_lt_zero _)⟩, ⟨rfl, trivial⟩, rfl, rfl, ⟨_, rfl⟩, ⟨_, rfl⟩, ⟨_, rfl⟩⟩ (fun _ => ⟨⟨rfl, rfl⟩, rfl⟩) ?_
  rintro i ⟨hi, hall⟩
  by_cases hlt : i < n
  · obtain ⟨x, hx⟩ : ∃ x, l[i]? = some x := ⟨l[i]'(by rw [h.len]; exact hlt), List.getElem?_eq_getElem _⟩
    obtain ⟨ad, cs', rfl, hd, rfl⟩ := h.get i x hx
    repeat' ((conv => whnf); first | (exfalso; have := ‹decide _ = false›; simp at this; omega) | refine And.intro ?_ ?_ | intro _ | refine ret_q ?_ | exact RegOK.mk (by kernel_rfl) | (refine ⟨_, rfl, ⟨by omega, by omega⟩, ?_⟩) | (refine ⟨_, hd.rd0, rfl, ?_⟩) | refine callv_c (fun w' _ hl => hp x w' (List.mem_of_getElem? hx) hl) ?_ | (refine ⟨i + 1, ?_, ⟨congrArg (fun z => AV.one (.v (ip z))) (ipS hlt hn), trivial⟩, rfl, rfl, ⟨_, rfl⟩, ⟨_, rfl⟩, ⟨_, rfl⟩, rfl⟩) | fail)
    · rw [idxI_at hx (by assumption) fun j y hj hy => hall j y hj hy]
    · refine ⟨⟨by omega, fun j y hj hy => ?_⟩, by dsimp only; omega⟩
      by_cases e : j = i
      · subst e; rw [hx] at hy; cases hy; assumption
      · exact hall j y (by omega) hy
  · repeat' ((conv => whnf); first | refine And.intro ?_ ?_ | intro _ | refine ret_q ?_ | exact RegOK.mk (by kernel_rfl) | (exfalso; have := ‹decide _ = true›; simp at this; omega) | fail)
    rw [idxI_none fun j x hx => hall j x (by have := (List.getElem?_eq_some_iff.1 hx).1; have := h.len; omega) hx]
def imgOK (w h : Int) (n : Nat) (l : List Co) : Bool := sideB w && sideB h && decide ((n : Int) = W (w * h)) && !l.any fun c => !c.right
theorem ImgCheck_r (w0 : World) (w h : Int) (b : Option Addr) (n c : Nat) (l : List Co) (hs : Sl tyCo b n c l w0 NoE) (hn : n < 9223372036854775807) : Cr Tryz.prog 150 [.agg #[ip w, ip h, .slice b n c]] w0 (ip (if imgOK w h n l then 0 else 30)) := by
  refine cr_of_ev TT_ok mix Tryz.func150 (by kernel_rfl) rfl ?_
  repeat' ((conv => whnf); first | refine And.intro ?_ ?_ | intro _ | refine ret_q ?_ | exact RegOK.mk (by kernel_rfl) | refine call_q (side_q _) ?_ | refine call_c (fun w' _ hl => ContainsFunc200_r w' b n c l 198 #[] (fun c => !c.right) (stb_later hl _ hs) hn (fun x w' _ _ => (Cq.r (Check1_q x.r x.g x.b x.a) w').v)) ?_ | fail)
  all_goals (simp_all [imgOK]; done)

abbrev zC : List Value := [u8 0, u8 0, u8 0, u8 0]
abbrev zeros (n : Nat) : List Value := (List.replicate n zC).flatMap id
theorem imgNew_f (w0 : World) (X : Nat → Prop) (w h : Int) (hw : sideB w = true) (hh : sideB h = true) :
    Cf Tryz.prog 151 [ip w, ip h] w0 X [] (ι := Nat) (fun n => .tuple #[.agg #[ip w, ip h, .slice (some ⟨n, 0, none⟩) (w * h).toNat (w * h).toNat], ip 0]) (fun n => [rowP 43 4 (some ⟨n, 0, none⟩) (w * h).toNat (w * h).toNat (zeros (w * h).toNat)]) (fun n _ _ => (w * h).toNat ≤ 65536 ∧ w * h = ((w * h).toNat : Int)) := by
  have hw' : 1 ≤ w ∧ w ≤ 256 := by simpa [sideB] using hw
  have hh' : 1 ≤ h ∧ h ≤ 256 := by simpa [sideB] using hh
  have h0 : 0 ≤ w * h := Int.mul_nonneg (by omega) (by omega)
  have h1 : w * h ≤ 65536 := by
    have := Int.mul_le_mul hw'.2 hh'.2 (by omega) (by omega)
    simpa using this
  have e : W (w * h) = w * h := i64_id (by omega)
  refine cf_of_ev TT_ok mix Tryz.func151 (by kernel_rfl) rfl fun M hM => ?_
  repeat' ((conv => whnf); first | refine And.intro ?_ ?_ | intro _ | refine ret_q ?_ | exact RegOK.mk (by kernel_rfl) | refine call_q (side_q _) ?_ | (refine r_make e e rt141 zc43 ⟨h0, Int.le_refl _⟩ ⟨by omega, by omega⟩ ?_) | (refine ret_f (_) rfl rfl fun w' E' hl rel => Pv.go ?_) | (exfalso; simp_all; done) | fail)
  exact ⟨by omega, by omega⟩

theorem Clone195_f (w : World) (X : Nat → Prop) (b : Option Addr) (n c : Nat) (l : List Co) (h : Sl tyCo b n c l w X) (hn : n ≤ 1000000000) :
    Cf Tryz.prog 195 [.slice b n c] w X [] (ι := Option Addr × Nat) (fun i => .slice i.1 n i.2) (fun i => [rowP 43 4 i.1 n i.2 (l.flatMap cCo)]) (fun i _ _ => RowV i.1 n i.2) := by
  cases b with
  | none =>
    obtain rfl : c = 0 := h.nil rfl
    obtain rfl : n = 0 := Nat.le_zero.1 h.le
    obtain rfl : l = [] := List.eq_nil_of_length_eq_zero h.len
    refine cf_of_ev TT_ok mix Tryz.func195 (by kernel_rfl) rfl fun M hM => ?_
    repeat' ((conv => whnf); first | (intro h; exact Bool.noConfusion h) | refine And.intro ?_ ?_ | intro _ | refine ret_q ?_ | exact RegOK.mk (by kernel_rfl) | (refine ret_row 43 4 none ?_; refine ret_f (none, 0) rfl rfl fun w' E' hl rel => Pv.go ?_) | fail)
    exact ⟨RowV.nil none⟩
  | some ad =>
    obtain ⟨h1, h2, h3⟩ := Sl.rowsF (enc := cCo) (fun _ _ _ _ h => h) (stE h)
    refine cf_of_ev TT_ok mix Tryz.func195 (by kernel_rfl) rfl fun M hM => ?_
    repeat' ((conv => whnf); first | (intro h; exact Bool.noConfusion h) | refine And.intro ?_ ?_ | intro _ | refine ret_q ?_ | exact RegOK.mk (by kernel_rfl) | (refine r_appendN rt141 (rd_cells (h3 ad rfl)) h2 h1 ⟨by omega, by simp only [maxLen]; omega⟩ ?_) | (refine ret_f ((_, _)) rfl rfl fun w' E' hl rel => Pv.go ?_) | fail)
    exact ⟨by assumption⟩

/-- An image: its sides, and its pixels. -/
abbrev vIm (w h : Int) (b : Option Addr) (n c : Nat) : Value := .agg #[ip w, ip h, .slice b n c]
theorem copied146_f (w0 : World) (X : Nat → Prop) (w h : Int) (b : Option Addr) (n c : Nat) (l : List Co) (hs : Sl tyCo b n c l w0 X) (hn : n ≤ 1000000000) :
    Cf Tryz.prog 146 [vIm w h b n c] w0 X [] (ι := Option Addr × Nat) (fun i => vIm w h i.1 n i.2) (fun _ => []) (fun i => Sl tyCo i.1 n i.2 l) := by
  refine cf_of_ev TT_ok mix Tryz.func146 (by kernel_rfl) rfl fun M hM => ?_
  repeat' ((conv => whnf); first | refine And.intro ?_ ?_ | intro _ | refine ret_q ?_ | exact RegOK.mk (by kernel_rfl) | (refine call_n (fun w' X' _ hl => Clone195_f w' X' b n c l (stb_later hl _ (stE hs)) hn) ?_) | (refine ret_f ((_, _)) rfl rfl fun w' E' hl rel => Pv.go ?_) | fail)
  obtain ⟨F, h1, h2⟩ := rel.own 0 _ rfl (hM rfl)
  exact ⟨Row.slF tyCo cCo (fun _ _ _ => rfl) h1 h2 rfl⟩
theorem At152_r (w0 : World) (w h : Int) (b : Option Addr) (n c : Nat) (l : List Co) (hs : Sl tyCo b n c l w0 NoE) (x y : Int) (hx : (Bx.mk 0 0 w h).has x y = true) (i : Nat) (hi : W (W (y * w) + x) = i) (p : Co) (hp : l[i]? = some p) :
    Cr Tryz.prog 152 [vIm w h b n c, ip x, ip y] w0 (.tuple #[vCo p, .bool true]) := by
  obtain ⟨ad, cs', rfl, hd, rfl⟩ := hs.get i p hp
  have hlt : i < n := by rw [← hs.len]; exact (List.getElem?_eq_some_iff.1 hp).1
  refine cr_of_ev TT_ok mix Tryz.func152 (by kernel_rfl) rfl ?_
  repeat' ((conv => whnf); first | refine And.intro ?_ ?_ | intro _ | refine ret_q ?_ | exact RegOK.mk (by kernel_rfl) | refine call_q (IBox_q _ _ _ _ _) ?_ | refine call_q (Has_q _ _ _ _ _ _) ?_ | (refine ⟨_, rfl, ⟨by simp only [W] at hi; omega, by simp only [W] at hi; omega⟩, ?_⟩) | (refine ⟨_, hd.rdI hi, rfl, ?_⟩) | (exfalso; simp_all; done) | fail)
  all_goals first | rfl | (exfalso; have := ‹decide _ = true›; simp at this; simp only [W] at hi; omega)
end Go.Ev

