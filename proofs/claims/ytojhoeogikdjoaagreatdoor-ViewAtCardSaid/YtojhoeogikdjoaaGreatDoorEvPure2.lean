/- A symbolic walk: what is reckoned for a quiet operation is what the model does; conditions: the table of types is the program's. -/
import Derived.Test.YtojhoeogikdjoaaGreatDoorEvPure
set_option linter.unusedSimpArgs false
set_option linter.unusedVariables false
namespace Go.Ev
open Go.RowKit

theorem tk_struct {P : Program} {u : TypeDesc} {fs : List (Nat × Nat × Bool)} (h : tkOf P u = some (.struct fs)) : ∃ gs, u = .struct gs ∧ fsB P gs.toList = some fs := by
  cases u <;> simp [tkOf] at h
  · exact ⟨_, rfl, h⟩
theorem tk_slice {P : Program} {u : TypeDesc} {e sz : Nat} (h : tkOf P u = some (.slice e sz)) : u = .slice e ∧ ∃ b, szB P e = some (sz, b) := by
  cases u with
  | slice e' =>
    simp only [tkOf] at h
    cases hs : szB P e' with
    | none => rw [hs] at h; cases h
    | some x =>
      rw [hs] at h
      simp only [Option.map_some, Option.some.injEq, TK.slice.injEq] at h
      obtain ⟨rfl, rfl⟩ := h
      exact ⟨rfl, x.2, hs⟩
  | _ => simp [tkOf] at h
theorem tk_arr {P : Program} {u : TypeDesc} {n sz : Nat} {ag : Bool} (h : tkOf P u = some (.arr n sz ag)) : ∃ e, u = .array n e ∧ szB P e = some (sz, ag) := by
  cases u with
  | array n' e' =>
    simp only [tkOf] at h
    cases hs : szB P e' with
    | none => rw [hs] at h; cases h
    | some x =>
      rw [hs] at h
      simp only [Option.map_some, Option.some.injEq, TK.arr.injEq] at h
      obtain ⟨rfl, rfl, rfl⟩ := h
      exact ⟨_, rfl, hs⟩
  | _ => simp [tkOf] at h
theorem tk_int {P : Program} {u : TypeDesc} {kd : IntKind} (h : tkOf P u = some (.int kd)) : u = .int kd := by
  cases u <;> simp [tkOf] at h
  · exact congrArg _ h
theorem tk_ptr {P : Program} {u : TypeDesc} (h : tkOf P u = some .ptr) : ∃ e, u = .pointer e := by cases u <;> simp [tkOf] at h; exact ⟨_, rfl⟩
theorem tk_bool {P : Program} {u : TypeDesc} (h : tkOf P u = some .bool) : u = .bool := by cases u <;> simp [tkOf] at h; rfl
theorem tk_str {P : Program} {u : TypeDesc} (h : tkOf P u = some .str) : u = .string := by cases u <;> simp [tkOf] at h; rfl
theorem tk_agg {P : Program} {u : TypeDesc} {k : TK} (h : tkOf P u = some k) : aggB u = k.agg := by
  cases u with
  | struct fs =>
    simp only [tkOf] at h
    cases hs : fsB P fs.toList with
    | none => rw [hs] at h; cases h
    | some x => rw [hs] at h; simp only [Option.map_some, Option.some.injEq] at h; subst h; rfl
  | array n e =>
    simp only [tkOf] at h
    cases hs : szB P e with
    | none => rw [hs] at h; cases h
    | some x => rw [hs] at h; simp only [Option.map_some, Option.some.injEq] at h; subst h; rfl
  | slice e =>
    simp only [tkOf] at h
    cases hs : szB P e with
    | none => rw [hs] at h; cases h
    | some x => rw [hs] at h; simp only [Option.map_some, Option.some.injEq] at h; subst h; rfl
  | _ => simp only [tkOf, Option.some.injEq] at h; subst h; rfl

theorem szB_info {P : Program} {t : TypeId} {s : Nat} {b : Bool} (h : szB P t = some (s, b)) : ∃ i u, P.info? t = some i ∧ P.underlying t = some u ∧ i.size = s ∧ aggB u = b := by
  unfold szB at h
  split at h
  · rename_i i u hi hu
    simp only [Option.some.injEq, Prod.mk.injEq] at h
    exact ⟨i, u, hi, hu, h.1, h.2⟩
  · cases h

theorem fsB_get {P : Program} : ∀ {gs : List Field} {fs : List (Nat × Nat × Bool)}, fsB P gs = some fs → gs.length = fs.length ∧ ∀ (i : Nat) (x : Nat × Nat × Bool), fs[i]? = some x → ∃ g, gs[i]? = some g ∧ g.offset = x.1 ∧ szB P g.type = some x.2
  | [], fs, h => by simp [fsB] at h; subst h; simp
  | g :: gs, fs, h => by
    simp only [fsB] at h
    split at h
    · rename_i s b l h1 h2
      simp only [Option.some.injEq] at h
      subst h
      obtain ⟨hl, hg⟩ := fsB_get h2
      refine ⟨by simp [hl], fun i x hx => ?_⟩
      cases i with
      | zero => simp at hx; subst hx; exact ⟨g, by simp, rfl, h1⟩
      | succ i => simpa using hg i x (by simpa using hx)
    · cases h

section
variable {C : Ctx} {T : Tr} {S : St} {o : Oper} {k : AV → Prop}

def Yes (C : Ctx) (S : St) (o : Oper) (k : AV → Prop) : Prop := ∃ r, Qr C S o r ∧ k r

theorem yes_move {x : Operand} (ho : o.op = .move x ∨ o.op = .assign x) (h : opK S.tm x fun a => force a k) : Yes C S o k := by
  rw [opK_eq, force_eq] at h
  refine ⟨_, fun a hs => ⟨_, opA_R hs x, fun w _ => ?_⟩, h⟩
  rcases ho with ho | ho <;> simp [execOp, ho, Sem.run, pure]

theorem R_tt {ns : List Nat} {a : AV} {y : Value} (h : a.R ns y) (e : a = .one .tt) : y = .bool true := by subst e; exact h
theorem R_ff {ns : List Nat} {a : AV} {y : Value} (h : a.R ns y) (e : a = .one .ff) : y = .bool false := by subst e; exact h
theorem R_v {ns : List Nat} {a : AV} {x y : Value} (h : a.R ns y) (e : a = .one (.v x)) : y = x := by subst e; exact h
theorem R_p {ns : List Nat} {a : AV} {t o : Nat} {y : Value} (h : a.R ns y) (e : a = .one (.p t o)) : y = .pointer (some ⟨ns.getD t 0, o, none⟩) := by subst e; exact h
theorem R_s {ns : List Nat} {a : AV} {ls : List Lf} {y : Value} (h : a.R ns y) (e : a = .s ls) : ∃ cs : List Value, y = .agg cs.toArray ∧ LR ns ls cs := by subst e; exact h

theorem run_asBool {P : Program} {w : World} (b : Bool) : (asBool (.bool b)).run P w = .ok b w := rfl

theorem yes_pick {c x y : Operand} (ho : o.op = .pick c x y) (h : evP C.P T S (.pick c x y) k) : Yes C S o k := by
  simp only [evP, opK_eq, force_eq] at h
  split at h
  · rename_i e
    exact ⟨_, fun a hs => ⟨_, opA_R hs x, fun w _ => by rw [execOp, ho]; simp only; rw [R_tt (opA_R hs c) e]; rfl⟩, h⟩
  · rename_i e
    exact ⟨_, fun a hs => ⟨_, opA_R hs y, fun w _ => by rw [execOp, ho]; simp only; rw [R_ff (opA_R hs c) e]; rfl⟩, h⟩
  · rename_i b e
    cases b with
    | true => exact ⟨_, fun a hs => ⟨_, opA_R hs x, fun w _ => by rw [execOp, ho]; simp only; rw [R_v (opA_R hs c) e]; rfl⟩, h.1 rfl⟩
    | false => exact ⟨_, fun a hs => ⟨_, opA_R hs y, fun w _ => by rw [execOp, ho]; simp only; rw [R_v (opA_R hs c) e]; rfl⟩, h.2 rfl⟩
  · cases h

theorem yesV (v : Value) (h : k (.one (.v v))) (hr : ∀ a, Sim S a → ∀ w, Mod C S w → (execOp a.eval o).run C.P w = .ok (.value v) w) : Yes C S o k :=
  ⟨.one (.v v), fun a hs => ⟨v, rfl, hr a hs⟩, h⟩
theorem yesP (t q : Nat) (h : k (.one (.p t q))) (hr : ∀ a, Sim S a → ∀ w, Mod C S w → (execOp a.eval o).run C.P w = .ok (.value (.pointer (some ⟨S.ns.getD t 0, q, none⟩))) w) : Yes C S o k :=
  ⟨.one (.p t q), fun a hs => ⟨_, rfl, hr a hs⟩, h⟩

theorem yes_nil {x : Operand} (ho : o.op = .nilCheck x) (h : evP C.P T S (.nilCheck x) k) : Yes C S o k := by
  simp only [evP, opK_eq] at h
  split at h
  · rename_i t q e
    exact yesP t q h fun a hs w _ => by rw [execOp, ho]; simp only; rw [R_p (opA_R hs x) e]; rfl
  · rename_i e; exact yesV _ h fun a hs w _ => by rw [execOp, ho]; simp only; rw [R_v (opA_R hs x) e]; rfl
  · rename_i e; exact yesV _ h fun a hs w _ => by rw [execOp, ho]; simp only; rw [R_v (opA_R hs x) e]; rfl
  · rename_i e; exact yesV _ h fun a hs w _ => by rw [execOp, ho]; simp only; rw [R_v (opA_R hs x) e]; rfl
  · cases h

theorem eqGuard_plain {P : Program} {op : BinOp} {t : TypeId} {xo yo : Operand} {x y : Value} {w : World} (h : ∀ cs, x ≠ .agg cs) (h' : x ≠ .nilIface) : (eqGuard op t xo yo x y).run P w = .ok () w := by
  unfold eqGuard
  cases op <;> first
    | rfl
    | (cases x <;> first | rfl | exact absurd rfl (h _) | exact absurd rfl h')

theorem run_equalIn {P : Program} {t : TypeId} {x y : Value} {w : World} {u : TypeDesc} (hu : P.underlying t = some u) {r : Result Bool}
    (h : (Op.equalIn Op.maxDepth t x y).run P w = r) : (Op.equal t x y).run P w = r := h

theorem eqK_sound {t : TypeId} {a b : AV} {k : Bool → Prop} {ns : List Nat} (hT : T.OK C.P) (h : eqK C.P T ns t a b k) :
    ∃ c, k c ∧ ∀ x y, a.R ns x → b.R ns y → (∀ op xo yo w, (eqGuard op t xo yo x y).run C.P w = .ok () w) ∧ (∀ w, (Op.equal t x y).run C.P w = .ok c w) ∧ ((∃ p, x = .bool p) ∨ (∃ p q r, x = .slice p q r) ∨ (∃ cs ds, x = .agg cs ∧ y = .agg ds) ∨ ∃ p, x = .pointer p ∧ y = .pointer none) := by
  unfold eqK at h
  split at h
  · obtain ⟨xs, h, hx⟩ := lfsK_sound h
    obtain ⟨ys, h, hy⟩ := lfsK_sound h
    obtain ⟨c, h1, h2, h3⟩ := h.go
    refine ⟨c, h3, fun x y hx' hy' => ?_⟩
    obtain ⟨cs, rfl, hl⟩ := R_s hx' rfl
    obtain ⟨ds, rfl, hd⟩ := R_s hy' rfl
    rw [hx cs hl, hy ds hd]
    exact ⟨h2, h1, .inr (.inr (.inl ⟨_, _, rfl, rfl⟩))⟩
  · split at h
    · rename_i hl
      obtain ⟨i, u, z, _, hu, _, _, _, hk⟩ := tdOf_info (Tr.look_ok hT hl)
      obtain rfl := tk_bool hk
      refine ⟨_, h, fun x y hx hy => ?_⟩
      obtain rfl := R_v hx rfl; obtain rfl := R_v hy rfl
      refine ⟨fun op xo yo w => eqGuard_plain (by simp) (by simp), fun w => ?_, .inl ⟨_, rfl⟩⟩
      unfold Op.equal Op.maxDepth Op.equalIn; rw [run_bind (run_underlying hu)]; rfl
    · cases h
  · split at h
    · rename_i hl
      obtain ⟨i, u, z, _, hu, _, _, _, hk⟩ := tdOf_info (Tr.look_ok hT hl)
      obtain rfl := tk_bool hk
      refine ⟨_, h, fun x y hx hy => ?_⟩
      obtain rfl := R_v hx rfl; obtain rfl := R_tt hy rfl
      refine ⟨fun op xo yo w => eqGuard_plain (by simp) (by simp), fun w => ?_, .inl ⟨_, rfl⟩⟩
      unfold Op.equal Op.maxDepth Op.equalIn; rw [run_bind (run_underlying hu)]; rfl
    · cases h
  · split at h
    · rename_i hl
      obtain ⟨i, u, z, _, hu, _, _, _, hk⟩ := tdOf_info (Tr.look_ok hT hl)
      obtain rfl := tk_bool hk
      refine ⟨_, h, fun x y hx hy => ?_⟩
      obtain rfl := R_v hx rfl; obtain rfl := R_ff hy rfl
      refine ⟨fun op xo yo w => eqGuard_plain (by simp) (by simp), fun w => ?_, .inl ⟨_, rfl⟩⟩
      unfold Op.equal Op.maxDepth Op.equalIn; rw [run_bind (run_underlying hu)]; rfl
    · cases h
  · split at h
    · rename_i hl
      obtain ⟨i, u, z, _, hu, _, _, _, hk⟩ := tdOf_info (Tr.look_ok hT hl)
      obtain ⟨rfl, _⟩ := tk_slice hk
      refine ⟨_, h, fun x y hx hy => ?_⟩
      obtain rfl := R_v hx rfl; obtain rfl := R_v hy rfl
      refine ⟨fun op xo yo w => eqGuard_plain (by simp) (by simp), fun w => ?_, .inr (.inl ⟨_, _, _, rfl⟩)⟩
      unfold Op.equal Op.maxDepth Op.equalIn; rw [run_bind (run_underlying hu)]
      cases ‹Option Addr› <;> rfl
    · cases h
  · split at h
    · rename_i hl
      obtain ⟨i, u, z, _, hu, _, _, _, hk⟩ := tdOf_info (Tr.look_ok hT hl)
      obtain ⟨el, rfl⟩ := tk_ptr hk
      refine ⟨_, h, fun x y hx hy => ?_⟩
      obtain rfl := R_p hx rfl; obtain rfl := R_v hy rfl
      refine ⟨fun op xo yo w => eqGuard_plain (by simp) (by simp), fun w => ?_, .inr (.inr (.inr ⟨_, rfl, rfl⟩))⟩
      unfold Op.equal Op.maxDepth Op.equalIn; rw [run_bind (run_underlying hu)]; rfl
    · cases h
  · split at h
    · rename_i hl
      obtain ⟨i, u, z, _, hu, _, _, _, hk⟩ := tdOf_info (Tr.look_ok hT hl)
      obtain ⟨el, rfl⟩ := tk_ptr hk
      refine ⟨_, h, fun x y hx hy => ?_⟩
      obtain rfl := R_v hx rfl; obtain rfl := R_v hy rfl
      refine ⟨fun op xo yo w => eqGuard_plain (by simp) (by simp), fun w => ?_, .inr (.inr (.inr ⟨_, rfl, rfl⟩))⟩
      unfold Op.equal Op.maxDepth Op.equalIn; rw [run_bind (run_underlying hu)]
      cases ‹Option Addr› <;> rfl
    · cases h
  · cases h

theorem yes_bin {op : BinOp} {t yt : TypeId} {x y : Operand} (hT : T.OK C.P) (ho : o.op = .binOp op t x y yt) (h : evP C.P T S (.binOp op t x y yt) k) : Yes C S o k := by
  simp only [evP, opK_eq] at h
  unfold binK at h
  split at h
  · rename_i kd n kd' m e1 e2
    have key : ∀ (h : binI op kd n m k) (hk : shB op = false → kd = kd'), Yes C S o k := fun h hk => by
      obtain ⟨r, v, hr, hkr, hrun⟩ := binI_sound h hk S.ns C.P t
      refine ⟨r, fun a hs => ⟨v, hr, fun w _ => ?_⟩, hkr⟩
      rw [execOp, ho]; simp only
      rw [R_v (opA_R hs x) e1, R_v (opA_R hs y) e2]
      refine run_v ?_
      rw [run_bind (eqGuard_plain (by simp) (by simp))]
      exact hrun w
    split at h
    · rename_i hb; exact key h (fun hf => by rw [hb] at hf; cases hf)
    · split at h
      · rename_i hb; exact key h (fun _ => kdB_eq hb)
      · cases h
  · split at h
    · obtain ⟨c, hk, hall⟩ := eqK_sound (ns := S.ns) hT h
      refine yesV _ hk fun a hs w _ => ?_
      obtain ⟨h1, h5, h6⟩ := hall _ _ (opA_R hs x) (opA_R hs y)
      rw [execOp, ho]; simp only
      refine run_v ?_
      rw [run_bind (h1 _ _ _ w)]
      have hb : binOp .eql t (a.eval x) (a.eval y) = (do pure (.bool (← Op.equal t (a.eval x) (a.eval y)))) := by
        rcases h6 with ⟨p, e⟩ | ⟨p, q, r, e⟩ | ⟨cs, ds, e, e'⟩ | ⟨p, e, e'⟩ <;> rw [e] <;> (try rw [e']) <;> unfold binOp <;> rfl
      rw [hb, run_bind (h5 w)]; rfl
    · obtain ⟨c, hk, hall⟩ := eqK_sound (ns := S.ns) hT h
      refine yesV _ hk fun a hs w _ => ?_
      obtain ⟨h1, h5, h6⟩ := hall _ _ (opA_R hs x) (opA_R hs y)
      rw [execOp, ho]; simp only
      refine run_v ?_
      rw [run_bind (h1 _ _ _ w)]
      have hb : binOp .neq t (a.eval x) (a.eval y) = (do pure (.bool (!(← Op.equal t (a.eval x) (a.eval y))))) := by
        rcases h6 with ⟨p, e⟩ | ⟨p, q, r, e⟩ | ⟨cs, ds, e, e'⟩ | ⟨p, e, e'⟩ <;> rw [e] <;> (try rw [e']) <;> unfold binOp <;> rfl
      rw [hb, run_bind (h5 w)]; rfl
    · cases h

theorem yes_un {op : UnOp} {t : TypeId} {x : Operand} (ho : o.op = .unOp op t x) (h : evP C.P T S (.unOp op t x) k) : Yes C S o k := by
  simp only [evP, opK_eq] at h
  unfold unK at h
  split at h
  · rename_i e; exact ⟨.one .ff, fun a hs => ⟨_, rfl, fun w _ => by rw [execOp, ho]; simp only; rw [R_tt (opA_R hs x) e]; rfl⟩, h⟩
  · rename_i e; exact ⟨.one .tt, fun a hs => ⟨_, rfl, fun w _ => by rw [execOp, ho]; simp only; rw [R_ff (opA_R hs x) e]; rfl⟩, h⟩
  · rename_i e; exact yesV _ h fun a hs w _ => by rw [execOp, ho]; simp only; rw [R_v (opA_R hs x) e]; rfl
  · rename_i e; exact yesV _ h fun a hs w _ => by rw [execOp, ho]; simp only; rw [R_v (opA_R hs x) e]; rfl
  · rename_i e; exact yesV _ h fun a hs w _ => by rw [execOp, ho]; simp only; rw [R_v (opA_R hs x) e]; rfl
  · cases h

theorem yes_conv {src dst : TypeId} {x : Operand} (hT : T.OK C.P) (ho : o.op = .convert src dst x) (h : evP C.P T S (.convert src dst x) k) : Yes C S o k := by
  simp only [evP, opK_eq] at h
  unfold convK at h
  split at h
  · rename_i d1 _ _ kd kd' n h1 h2 e
    obtain ⟨_, u1, _, _, hu1, _, _, _, _⟩ := tdOf_info (Tr.look_ok hT h1)
    obtain ⟨_, u2, _, _, hu2, _, _, _, hk2⟩ := tdOf_info (Tr.look_ok hT h2)
    obtain rfl := tk_int hk2
    refine yesV _ h fun a hs w _ => ?_
    rw [execOp, ho]; simp only; rw [R_v (opA_R hs x) e]
    refine run_v ?_
    unfold convert
    rw [run_bind (run_underlying hu1), run_bind (run_underlying hu2)]
    cases u1 <;> rfl
  · cases h


theorem add_zero_off (t q : Nat) (n : Nat) : (⟨t, q, none⟩ : Addr).add n = ⟨t, q + n, none⟩ := by
  unfold Addr.add; split
  · subst_vars; rfl
  · rfl

theorem yes_fieldAddr {t : TypeId} {x : Operand} {f : Nat} (hT : T.OK C.P) (ho : o.op = .fieldAddr t x f) (h : evP C.P T S (.fieldAddr t x f) k) : Yes C S o k := by
  simp only [evP, opK_eq] at h
  unfold fieldAddrK at h
  split at h
  · rename_i sz0 z0 fs hl
    obtain ⟨i, u, z, hi, hu, _, _, _, hk⟩ := tdOf_info (Tr.look_ok hT hl)
    obtain ⟨gs, rfl, hgs⟩ := tk_struct hk
    split at h
    · rename_i off sz ag hn
      rw [nthF_eq] at hn
      obtain ⟨hlen, hget⟩ := fsB_get hgs
      obtain ⟨g, hg, hoff, hsz⟩ := hget f _ hn
      obtain ⟨ig, ug, hig, _, hsize, _⟩ := szB_info hsz
      have hg' : gs[f]? = some g := by rw [← Array.getElem?_toList]; exact hg
      have hf : ∀ (ad : Addr) (w : World), sz ≠ 0 → (Instr.fieldAt t (.pointer (some ad)) f).run C.P w = .ok (.pointer (some (ad.add off))) w := by
        intro ad w hne
        unfold Instr.fieldAt
        rw [run_bind (run_underlying hu)]
        simp only [hg']
        rw [run_bind (show (Instr.sureAddr (.pointer (some ad))).run C.P w = .ok ad w from rfl)]
        rw [run_bind (show (fieldPlace ad g).run C.P w = .ok (ad.add off) w from ?_)]
        · rfl
        · unfold fieldPlace
          rw [run_bind (run_sizeOf hig), hsize]
          rw [if_neg hne, hoff]; rfl
      split at h
      · cases h
      · rename_i sz'
        split at h
        · rename_i t' o' e
          refine yesP _ _ h fun a hs w _ => ?_
          rw [execOp, ho]; simp only; rw [R_p (opA_R hs x) e]
          refine run_v ?_
          rw [hf _ w (by simp), add_zero_off]
        · rename_i ad e
          refine yesV _ h fun a hs w _ => ?_
          rw [execOp, ho]; simp only; rw [R_v (opA_R hs x) e]
          exact run_v (hf _ w (by simp))
        · cases h
    · cases h
  · cases h

theorem partK_sound {ag : Bool} {ls : List Lf} {off sz : Nat} {k : AV → Prop} {ns : List Nat} (h : partK ag ls off sz k) : ∃ r, k r ∧ ∀ cs : List Value, LR ns ls cs →
    ∃ y, r.R ns y ∧ (ag = true → off + sz ≤ cs.length ∧ y = .agg ((cs.drop off).take sz).toArray) ∧ (ag = false → cs[off]? = some y) := by
  unfold partK at h
  split at h
  · split at h
    · rename_i hb
      rw [forceLs_eq] at h
      refine ⟨_, h, fun cs hl => ⟨.agg ((cs.drop off).take sz).toArray, ⟨_, rfl, (hl.drop off).take sz⟩, fun _ => ⟨?_, rfl⟩, nofun⟩⟩
      have := Nat.le_of_ble_eq_true hb
      rw [← hl.length]; exact this
    · cases h
  · split at h
    · rename_i l hn
      rw [forceF_eq] at h
      rw [nthL_eq] at hn
      refine ⟨_, h, fun cs hl => ?_⟩
      obtain ⟨c, hc, hr⟩ := hl.get off l hn
      exact ⟨c, hr, nofun, fun _ => hc⟩
    · cases h

theorem run_part {P : Program} {w : World} {t : TypeId} {sz off : Nat} {ag : Bool} {cs : List Value} {y : Value} (hs : szB P t = some (sz, ag))
    (h1 : ag = true → off + sz ≤ cs.length ∧ y = .agg ((cs.drop off).take sz).toArray) (h2 : ag = false → cs[off]? = some y) : (part t cs.toArray off).run P w = .ok y w := by
  obtain ⟨i, u, hi, hu, hsz, hag⟩ := szB_info hs
  unfold part
  rw [run_bind (run_isAgg hu), hag]
  cases ag with
  | true =>
    rw [if_pos rfl, run_bind (run_sizeOf hi), hsz, (h1 rfl).2]
    simp only [run_pure, Result.ok.injEq, Value.agg.injEq, and_true]
    apply Array.ext'
    rw [Array.toList_extract]
    simp only [List.extract_eq_take_drop]
    congr 1; omega
  | false =>
    rw [if_neg (by simp)]
    have : cs.toArray[off]? = some y := by simpa using h2 rfl
    simp only [this]; rfl

theorem yes_field {t : TypeId} {x : Operand} {f : Nat} (hT : T.OK C.P) (ho : o.op = .field t x f) (h : evP C.P T S (.field t x f) k) : Yes C S o k := by
  simp only [evP, opK_eq] at h
  unfold fieldK at h
  split at h
  · rename_i sz0 z0 fs hl
    obtain ⟨i, u, z, hi, hu, _, _, _, hk⟩ := tdOf_info (Tr.look_ok hT hl)
    obtain ⟨gs, rfl, hgs⟩ := tk_struct hk
    split at h
    · rename_i off sz ag hn
      rw [nthF_eq] at hn
      obtain ⟨hlen, hget⟩ := fsB_get hgs
      obtain ⟨g, hg, hoff, hsz⟩ := hget f _ hn
      have hg' : gs[f]? = some g := by rw [← Array.getElem?_toList]; exact hg
      split at h
      · rename_i ls e
        obtain ⟨r, hkr, hall⟩ := partK_sound (ns := S.ns) h
        refine ⟨r, fun a hs => ?_, hkr⟩
        obtain ⟨cs, he, hl⟩ := R_s (opA_R hs x) e
        obtain ⟨y, hy, hy1, hy2⟩ := hall cs hl
        refine ⟨y, hy, fun w _ => ?_⟩
        rw [execOp, ho]; simp only; rw [he]
        refine run_v ?_
        unfold Instr.field
        rw [run_bind (run_underlying hu)]
        simp only [hg']
        rw [run_bind (show (asAgg (.agg cs.toArray)).run C.P w = .ok cs.toArray w from rfl), hoff]
        exact run_part hsz hy1 hy2
      · cases h
    · cases h
  · cases h

theorem yes_indexAddr {t : TypeId} {x ix : Operand} (hT : T.OK C.P) (ho : o.op = .indexAddr t x ix) (h : evP C.P T S (.indexAddr t x ix) k) : Yes C S o k := by
  simp only [evP, opK_eq] at h
  unfold indexAddrK at h
  split at h
  · rename_i kd n ei
    split at h
    · rename_i sz0 z0 e esz hl
      obtain ⟨i, u, z, hi, hu, _, _, _, hk⟩ := tdOf_info (Tr.look_ok hT hl)
      obtain ⟨rfl, b, hb⟩ := tk_slice hk
      obtain ⟨ie, ue, hie, _, hse, _⟩ := szB_info hb
      split at h
      · rename_i ab len cap ex
        obtain ⟨ad, rfl, ⟨h0, h1⟩, hkk⟩ := h
        refine yesV _ hkk fun a hs w _ => ?_
        rw [execOp, ho]; simp only; rw [R_v (opA_R hs x) ex, R_v (opA_R hs ix) ei]
        refine run_v ?_
        unfold Instr.indexAt
        rw [run_bind (show (asIntOf (.int kd n)).run C.P w = .ok (kd, n) w from rfl)]
        simp only
        rw [run_bind (run_underlying hu)]
        simp only
        rw [run_bind (show (pure (some ad, len, e) : Sem (Option Addr × Nat × TypeId)).run C.P w = .ok _ w from rfl)]
        simp only
        rw [run_bind (run_underlying hu)]
        simp only
        rw [if_pos ⟨h0, h1⟩, run_bind (run_sizeOf hie), hse]; rfl
      · cases h
    · rename_i sz0 z0 len esz ag hl
      obtain ⟨i, u, z, hi, hu, _, _, _, hk⟩ := tdOf_info (Tr.look_ok hT hl)
      obtain ⟨e, rfl, hb⟩ := tk_arr hk
      obtain ⟨ie, ue, hie, _, hse, _⟩ := szB_info hb
      have key : ∀ (ad : Addr) (w : World), 0 ≤ n ∧ n < (len : Int) → (Instr.indexAt t (.pointer (some ad)) (.int kd n)).run C.P w = .ok (.pointer (some (ad.add (n.toNat * esz)))) w := by
        intro ad w hn
        unfold Instr.indexAt
        rw [run_bind (show (asIntOf (.int kd n)).run C.P w = .ok (kd, n) w from rfl)]
        simp only
        rw [run_bind (run_underlying hu)]
        simp only
        rw [run_bind (show (Instr.sureAddr (.pointer (some ad))).run C.P w = .ok ad w from rfl)]
        rw [run_bind (show (pure (some ad, len, e) : Sem (Option Addr × Nat × TypeId)).run C.P w = .ok (some ad, len, e) w from rfl)]
        simp only
        rw [run_bind (run_underlying hu)]
        simp only
        rw [if_pos hn, run_bind (run_sizeOf hie), hse]; rfl
      split at h
      · rename_i t' o' ex
        obtain ⟨hn, hkk⟩ := h
        refine yesP _ _ hkk fun a hs w _ => ?_
        rw [execOp, ho]; simp only; rw [R_p (opA_R hs x) ex, R_v (opA_R hs ix) ei]
        refine run_v ?_
        rw [key _ w hn, add_zero_off]
      · rename_i ad ex
        obtain ⟨hn, hkk⟩ := h
        refine yesV _ hkk fun a hs w _ => ?_
        rw [execOp, ho]; simp only; rw [R_v (opA_R hs x) ex, R_v (opA_R hs ix) ei]
        exact run_v (key _ w hn)
      · cases h
    · cases h
  · cases h

theorem yes_index {t : TypeId} {x ix : Operand} (hT : T.OK C.P) (ho : o.op = .index t x ix) (h : evP C.P T S (.index t x ix) k) : Yes C S o k := by
  simp only [evP, opK_eq] at h
  unfold indexK at h
  split at h
  · rename_i kd n ei
    split at h
    · rename_i sz0 z0 len esz ag hl
      obtain ⟨i, u, z, hi, hu, _, _, _, hk⟩ := tdOf_info (Tr.look_ok hT hl)
      obtain ⟨e, rfl, hb⟩ := tk_arr hk
      obtain ⟨ie, ue, hie, _, hse, _⟩ := szB_info hb
      split at h
      · rename_i ls ex
        obtain ⟨hn, h⟩ := h
        split at h
        · split at h
          · rename_i l hnl
            rw [forceF_eq] at h
            rw [nthL_eq] at hnl
            refine ⟨_, fun a hs => ?_, h⟩
            obtain ⟨cs, he, hl⟩ := R_s (opA_R hs x) ex
            obtain ⟨c, hc, hr⟩ := hl.get _ l hnl
            refine ⟨c, hr, fun w _ => ?_⟩
            rw [execOp, ho]; simp only; rw [he, R_v (opA_R hs ix) ei]
            refine run_v ?_
            unfold Instr.index
            rw [run_bind (show (asIntOf (.int kd n)).run C.P w = .ok (kd, n) w from rfl)]
            simp only
            rw [run_bind (run_underlying hu)]
            simp only
            rw [if_pos hn, run_bind (run_sizeOf hie), hse]
            exact run_part hb (by simp) (fun _ => hc)
          · cases h
        · cases h
      · cases h
    · cases h
  · cases h

theorem yes_extract {x : Operand} {i : Nat} (ho : o.op = .extract x i) (h : evP C.P T S (.extract x i) k) : Yes C S o k := by
  simp only [evP, opK_eq] at h
  unfold extractK at h
  split at h
  · rename_i vs e
    split at h
    · rename_i v hn
      rw [force_eq] at h
      rw [nthV_eq] at hn
      refine ⟨_, fun a hs => ⟨v, ofVal_R _ v, fun w _ => ?_⟩, h⟩
      rw [execOp, ho]; simp only; rw [R_v (opA_R hs x) e]
      refine run_v ?_
      unfold Instr.extract
      have : vs[i]? = some v := by rw [← Array.getElem?_toList]; exact hn
      simp only [this]; rfl
    · cases h
  · rename_i es e
    have key : ∀ (r : AV) (x' : Bool × List Lf), nthU es i = some x' → (∀ v, UR1 S.ns x' v → r.R S.ns v) → k r → Yes C S o k := by
      intro r x' hn hr hk
      have hall : ∀ a, Sim S a → ∃ vs : List Value, a.eval x = .tuple vs.toArray ∧ UR S.ns es vs := fun a hs => by
        have hx := opA_R hs x
        rw [e] at hx
        exact hx
      refine ⟨r, fun a hs => ?_, hk⟩
      obtain ⟨vs, he, hu⟩ := hall a hs
      obtain ⟨v, hv, hv'⟩ := nthU_sound hn vs hu
      refine ⟨v, hr v hv', fun w _ => ?_⟩
      rw [execOp, ho]; simp only; rw [he]
      refine run_v ?_
      unfold Instr.extract
      have : vs.toArray[i]? = some v := by simpa using hv
      simp only [this]; rfl
    split at h
    · rename_i ls hn; rw [forceLs_eq] at h; exact key (.s ls) _ hn (fun v hv => hv) h
    · rename_i l hn; rw [forceF_eq] at h; exact key (.one l) _ hn (fun v hv => hv) h
    · cases h
  · cases h

theorem LR.splice {ns : List Nat} {zs xs : List Lf} {cs ds : List Value} (off : Nat) (h : LR ns zs cs) (hx : LR ns xs ds) : LR ns (splice zs off xs) (cs.take off ++ (ds ++ cs.drop (off + ds.length))) := by
  unfold Ev.splice
  rw [← hx.length]
  exact (h.take off).append (hx.append (h.drop _))

theorem fold_set (off : Nat) : ∀ (ds : List Value) (j : Nat) (cs : Array Value), off + j + ds.length ≤ cs.size →
    ((ds.zipIdx j).foldl (fun (cs : Array Value) (x : Value × Nat) => cs.setIfInBounds (off + x.2) x.1) cs).toList = cs.toList.take (off + j) ++ (ds ++ cs.toList.drop (off + j + ds.length))
  | [], j, cs, _ => by simp
  | d :: ds, j, cs, h => by
    simp only [List.zipIdx_cons, List.foldl_cons]
    rw [fold_set off ds (j + 1) _ (by simp at h ⊢; omega)]
    rw [Array.toList_setIfInBounds]
    simp only [List.length_cons] at h
    have hlt : off + j < cs.toList.length := by simp; omega
    rw [show off + (j + 1) = off + j + 1 by omega]
    rw [List.take_set, List.drop_set]
    rw [if_pos (by omega)]
    rw [List.take_succ_eq_append_getElem hlt, List.set_append]
    rw [if_neg (by rw [List.length_take]; omega)]
    have : off + j - (List.take (off + j) cs.toList).length = 0 := by rw [List.length_take]; omega
    rw [this]
    simp only [List.set_cons_zero, List.append_assoc, List.cons_append, List.nil_append, List.length_cons]
    rw [show off + j + 1 + ds.length = off + j + (ds.length + 1) by omega]

theorem fill_step (off sz : Nat) (place : Nat → Option (Nat × Nat)) (i : Nat) (v : Value) (cs : List Value) (rest : List (Nat × Value)) (hp : place i = some (off, sz)) (h1 : v.cells.size = sz) (h2 : off + sz ≤ cs.length) :
    Instr.fill place cs.toArray ((i, v) :: rest) = Instr.fill place (cs.take off ++ (v.cells.toList ++ cs.drop (off + v.cells.toList.length))).toArray rest := by
  rw [Instr.fill]
  simp only [hp]
  rw [if_neg]
  · congr 1
    apply Array.ext'
    have := fold_set off v.cells.toList 0 cs.toArray (by simp; omega)
    rw [Nat.add_zero] at this
    simp only [] at this ⊢
    rw [← this]
    rw [← Array.foldl_toList]
    congr 1
    simp
  · simp only [Bool.or_eq_true, decide_eq_true_eq, not_or, Decidable.not_not]
    refine ⟨h1, ?_⟩
    rw [h1]; simp; exact h2

theorem fillK_sound {place : Nat → Option (Nat × Nat)} : ∀ {ps : List (Nat × Operand)} {zs : List Lf} {k : List Lf → Prop}, fillK S.tm place ps zs k →
    ∃ ms, k ms ∧ ∀ a, Sim S a → ∀ cs : List Value, LR S.ns zs cs → ∃ ds : List Value, LR S.ns ms ds ∧ Instr.fill place cs.toArray (ps.map fun x => (x.1, a.eval x.2)) = some ds.toArray
  | [], zs, k, h => ⟨zs, h, fun a hs cs hl => ⟨cs, hl, rfl⟩⟩
  | (i, x) :: ps, zs, k, h => by
    simp only [fillK] at h
    split at h
    · cases h
    · rename_i off sz hp
      rw [opK_eq] at h
      split at h
      · rename_i l e
        split at h
        · rename_i hc
          split at h
          · rename_i h1 h2
            rw [forceLs_eq] at h
            obtain ⟨ms, hk, hall⟩ := fillK_sound h
            refine ⟨ms, hk, fun a hs cs hl => ?_⟩
            have hv : l.R S.ns (a.eval x) := by have := opA_R hs x; rw [e] at this; exact this
            have hcell := (Lf.cell_one hc hv).2
            obtain ⟨ds, hd, hf⟩ := hall a hs _ (hl.splice off (xs := [l]) (ds := [a.eval x]) ⟨hv, trivial⟩)
            refine ⟨ds, hd, ?_⟩
            rw [List.map_cons, fill_step off sz place i _ cs _ hp (by rw [hcell]; simpa using (Nat.eq_of_beq_eq_true h1).symm) (by have := Nat.le_of_ble_eq_true h2; have := Nat.eq_of_beq_eq_true h1; rw [← hl.length]; omega)]
            rw [hcell]; exact hf
          · cases h
        · cases h
      · rename_i ls e
        split at h
        · rename_i h1 h2
          rw [forceLs_eq] at h
          obtain ⟨ms, hk, hall⟩ := fillK_sound h
          refine ⟨ms, hk, fun a hs cs hl => ?_⟩
          obtain ⟨xs, he, hx⟩ := R_s (opA_R hs x) e
          obtain ⟨ds, hd, hf⟩ := hall a hs _ (hl.splice off hx)
          refine ⟨ds, hd, ?_⟩
          have hlen := hx.length
          have hsz := Nat.eq_of_beq_eq_true h1
          rw [List.map_cons, fill_step off sz place i _ cs _ hp (by simp only [he, Value.cells]; simp; omega) (by have := Nat.le_of_ble_eq_true h2; rw [← hl.length]; omega)]
          simp only [he, Value.cells]; exact hf
        · cases h
      · cases h

theorem places_map {P : Program} {w : World} : ∀ {gs : List Field} {fs : List (Nat × Nat × Bool)}, fsB P gs = some fs →
    (gs.mapM fun f => do pure (f.offset, ← sizeOf f.type) : Sem (List (Nat × Nat))).run P w = .ok (fs.map fun x => (x.1, x.2.1)) w
  | [], fs, h => by simp [fsB] at h; subst h; rfl
  | g :: gs, fs, h => by
    simp only [fsB] at h
    split at h
    · rename_i s b l h1 h2
      simp only [Option.some.injEq] at h
      subst h
      obtain ⟨i, u, hi, hu, hsz, hag⟩ := szB_info h1
      rw [List.mapM_cons]
      rw [run_bind (a := (g.offset, s)) (w' := w)]
      · rw [run_bind (places_map h2)]; rfl
      · rw [run_bind (run_sizeOf hi), hsz]; rfl
    · cases h

theorem run_mapM_toArray {P : Program} {w : World} {α β : Type} {f : α → Sem β} {xs : Array α} {ys : List β} (h : (xs.toList.mapM f).run P w = .ok ys w) : (xs.mapM f).run P w = .ok ys.toArray w := by
  rw [Array.mapM_eq_mapM_toList]
  show (Functor.map List.toArray (xs.toList.mapM f)).run P w = _
  have : (Functor.map List.toArray (xs.toList.mapM f) : Sem (Array β)) = (xs.toList.mapM f >>= fun y => pure y.toArray) := rfl
  rw [this, run_bind h]; rfl

theorem yes_build {t : TypeId} {ps : Array (Nat × Operand)} (hT : T.OK C.P) (ho : o.op = .build t ps) (h : evP C.P T S (.build t ps) k) : Yes C S o k := by
  simp only [evP] at h
  unfold buildK at h
  have hps : ∀ a : Act, (ps.map fun (i, x) => (i, a.eval x)).toList = ps.toList.map fun x => (x.1, a.eval x.2) := fun a => by simp
  split at h
  · rename_i sz0 z0 fs hl
    obtain ⟨i, u, z, hi, hu, _, hz, hzl, hk⟩ := tdOf_info (Tr.look_ok hT hl)
    obtain ⟨gs, rfl, hgs⟩ := tk_struct hk
    rw [forceLs_eq] at h
    obtain ⟨ms, hk', hall⟩ := fillK_sound (S := S) h
    refine ⟨.s ms, fun a hs => ?_, hk'⟩
    obtain ⟨ds, hd, hf⟩ := hall a hs z0 (LR.of_v _)
    refine ⟨.agg ds.toArray, ⟨ds, rfl, hd⟩, fun w _ => ?_⟩
    rw [execOp, ho]; simp only
    refine run_v ?_
    unfold Instr.build
    rw [run_bind (run_zero hi hz), run_bind (run_underlying hu)]
    simp only
    rw [run_bind (run_mapM_toArray (places_map hgs)), hps]
    have hpl : (fun x : Nat => (fs.map fun x => (x.1, x.2.1)).toArray[x]?) = placeS fs := by
      funext x
      simp only [placeS, nthF_eq, List.getElem?_toArray, List.getElem?_map]
      cases fs[x]? <;> rfl
    have hzz : z.cells = z0.toArray := by apply Array.ext'; rw [hzl]
    rw [hpl, hzz, hf]; rfl
  · rename_i sz0 z0 n esz ag hl
    obtain ⟨i, u, z, hi, hu, _, hz, hzl, hk⟩ := tdOf_info (Tr.look_ok hT hl)
    obtain ⟨e, rfl, hb⟩ := tk_arr hk
    obtain ⟨ie, ue, hie, _, hse, _⟩ := szB_info hb
    rw [forceLs_eq] at h
    obtain ⟨ms, hk', hall⟩ := fillK_sound (S := S) h
    refine ⟨.s ms, fun a hs => ?_, hk'⟩
    obtain ⟨ds, hd, hf⟩ := hall a hs z0 (LR.of_v _)
    refine ⟨.agg ds.toArray, ⟨ds, rfl, hd⟩, fun w _ => ?_⟩
    rw [execOp, ho]; simp only
    refine run_v ?_
    unfold Instr.build
    rw [run_bind (run_zero hi hz), run_bind (run_underlying hu)]
    simp only
    rw [run_bind (run_sizeOf hie), hps, hse]
    have hzz : z.cells = z0.toArray := by apply Array.ext'; rw [hzl]
    have hpl : (fun i => some (i * esz, esz)) = placeA esz := rfl
    rw [hpl, hzz, hf]; rfl
  · cases h

theorem boundK_sound {x : Option AV} {d lim : Nat} {k : Nat → Prop} {ns : List Nat} (h : boundK x d lim k) :
    ∃ n, k n ∧ ((x = none ∧ n = d) ∨ (∃ a, x = some a ∧ ∀ y, a.R ns y → ∀ P w code, (Instr.sliceBound y lim code).run P w = .ok n w)) := by
  unfold boundK at h
  split at h
  · exact ⟨_, h, .inl ⟨rfl, rfl⟩⟩
  · rename_i kd n
    refine ⟨_, h.2, .inr ⟨_, rfl, fun y hy P w code => ?_⟩⟩
    obtain rfl := R_v hy rfl
    unfold Instr.sliceBound
    rw [run_bind (show (asIntOf (.int kd n)).run P w = .ok (kd, n) w from rfl)]
    simp only
    rw [if_pos h.1]; rfl
  · cases h

theorem opoK_sound {x : Option Operand} {k : Option AV → Prop} (h : opoK S.tm x k) : ∃ a, k a ∧ ((x = none ∧ a = none) ∨ ∃ y b, x = some y ∧ a = some b ∧ ∀ act, Sim S act → b.R S.ns (act.eval y)) := by
  cases x with
  | none => exact ⟨_, h, .inl ⟨rfl, rfl⟩⟩
  | some x => simp only [opoK, opK_eq] at h; exact ⟨_, h, .inr ⟨x, _, rfl, rfl, fun a hs => opA_R hs x⟩⟩

theorem run_bounds {P : Program} {w : World} {isS : Bool} {len cap m h l : Nat} {lo hi mx : Option Value}
    (hm : (mx = none ∧ m = cap) ∨ ∃ y, mx = some y ∧ ∀ P w code, (Instr.sliceBound y cap code).run P w = .ok m w)
    (hh : (hi = none ∧ h = len) ∨ ∃ y, hi = some y ∧ ∀ P w code, (Instr.sliceBound y m code).run P w = .ok h w)
    (hl : (lo = none ∧ l = 0) ∨ ∃ y, lo = some y ∧ ∀ P w code, (Instr.sliceBound y h code).run P w = .ok l w)
    (hmh : mx = none ∨ hi ≠ none) : (Instr.sliceBounds isS len cap lo hi mx).run P w = .ok (l, h, m) w := by
  unfold Instr.sliceBounds
  rcases hm with ⟨rfl, rfl⟩ | ⟨y, rfl, hy⟩
  · rw [run_bind (show (pure m : Sem Nat).run P w = .ok m w from rfl)]
    rcases hh with ⟨rfl, rfl⟩ | ⟨z, rfl, hz⟩
    · rw [run_bind (show (pure h : Sem Nat).run P w = .ok h w from rfl)]
      rcases hl with ⟨rfl, rfl⟩ | ⟨u, rfl, hu⟩
      · rw [run_bind (show (pure 0 : Sem Nat).run P w = .ok 0 w from rfl)]; rfl
      · simp only; rw [run_bind (hu P w _)]; rfl
    · simp only; rw [run_bind (hz P w _)]
      rcases hl with ⟨rfl, rfl⟩ | ⟨u, rfl, hu⟩
      · rw [run_bind (show (pure 0 : Sem Nat).run P w = .ok 0 w from rfl)]; rfl
      · simp only; rw [run_bind (hu P w _)]; rfl
  · simp only; rw [run_bind (hy P w _)]
    rcases hh with ⟨rfl, rfl⟩ | ⟨z, rfl, hz⟩
    · rcases hmh with e | e <;> simp at e
    · simp only; rw [run_bind (hz P w _)]
      rcases hl with ⟨rfl, rfl⟩ | ⟨u, rfl, hu⟩
      · rw [run_bind (show (pure 0 : Sem Nat).run P w = .ok 0 w from rfl)]; rfl
      · simp only; rw [run_bind (hu P w _)]; rfl


theorem boundK_map {xo : Option Operand} {d lim : Nat} {k : Nat → Prop} {a : Option AV} (ha : (xo = none ∧ a = none) ∨ ∃ y b, xo = some y ∧ a = some b ∧ ∀ act, Sim S act → b.R S.ns (act.eval y)) (h : boundK a d lim k) :
    ∃ n, k n ∧ ∀ act, Sim S act → ((xo.map act.eval = none ∧ n = d) ∨ ∃ y, xo.map act.eval = some y ∧ ∀ P w code, (Instr.sliceBound y lim code).run P w = .ok n w) := by
  obtain ⟨n, hk, hn⟩ := boundK_sound (ns := S.ns) h
  refine ⟨n, hk, fun act hs => ?_⟩
  rcases ha with ⟨rfl, rfl⟩ | ⟨y, b, rfl, rfl, hb⟩
  · rcases hn with ⟨_, rfl⟩ | ⟨_, e, _⟩
    · exact .inl ⟨rfl, rfl⟩
    · cases e
  · rcases hn with ⟨e, _⟩ | ⟨b', e, hb'⟩
    · cases e
    · simp only [Option.some.injEq] at e; subst e
      exact .inr ⟨_, rfl, hb' _ (hb act hs)⟩

theorem mh_map {mo ho : Option Operand} {m h : Option AV} (hm : (mo = none ∧ m = none) ∨ ∃ y b, mo = some y ∧ m = some b ∧ ∀ act, Sim S act → b.R S.ns (act.eval y))
    (hh : (ho = none ∧ h = none) ∨ ∃ y b, ho = some y ∧ h = some b ∧ ∀ act, Sim S act → b.R S.ns (act.eval y)) (hb : mhB m h = true) (act : Act) : mo.map act.eval = none ∨ ho.map act.eval ≠ none := by
  rcases hm with ⟨rfl, rfl⟩ | ⟨y, b, rfl, rfl, _⟩
  · exact .inl rfl
  · rcases hh with ⟨rfl, rfl⟩ | ⟨z, c, rfl, rfl, _⟩
    · cases hb
    · exact .inr (by simp)

theorem yes_slice {t : TypeId} {x : Operand} {lo hi mx : Option Operand} (hT : T.OK C.P) (ho : o.op = .slice t x lo hi mx) (h : evP C.P T S (.slice t x lo hi mx) k) : Yes C S o k := by
  simp only [evP, opK_eq] at h
  obtain ⟨l, h, hl⟩ := opoK_sound h
  obtain ⟨hh, h, hhi⟩ := opoK_sound h
  obtain ⟨m, h, hm⟩ := opoK_sound h
  unfold sliceK at h
  split at h
  · cases h
  · rename_i hb
    have hmh := mh_map hm hhi hb
    split at h
    · rename_i sz0 z0 e esz hlk
      obtain ⟨i, u, z, hi', hu, _, _, _, hk⟩ := tdOf_info (Tr.look_ok hT hlk)
      obtain ⟨rfl, b, hb⟩ := tk_slice hk
      obtain ⟨ie, ue, hie, _, hse, _⟩ := szB_info hb
      split at h
      · rename_i ab len cap ex
        obtain ⟨mN, h, hmN⟩ := boundK_map hm h
        obtain ⟨hN, h, hhN⟩ := boundK_map hhi h
        obtain ⟨lN, h, hlN⟩ := boundK_map hl h
        refine yesV _ h fun a hs w _ => ?_
        rw [execOp, ho]; simp only; rw [R_v (opA_R hs x) ex]
        refine run_v ?_
        unfold Instr.sliceAt
        rw [run_bind (run_underlying hu)]
        simp only
        unfold Instr.slice
        rw [run_bind (run_underlying hu)]
        simp only
        rw [run_bind (run_bounds (hmN a hs) (hhN a hs) (hlN a hs) (hmh a))]
        simp only
        rw [run_bind (run_sizeOf hie), hse]; rfl
      · cases h
    · rename_i sz0 z0 n esz ag hlk
      obtain ⟨i, u, z, hi', hu, _, _, _, hk⟩ := tdOf_info (Tr.look_ok hT hlk)
      obtain ⟨e, rfl, hb⟩ := tk_arr hk
      obtain ⟨ie, ue, hie, _, hse, _⟩ := szB_info hb
      split at h
      · rename_i t' o' ex
        obtain ⟨mN, h, hmN⟩ := boundK_map hm h
        obtain ⟨hN, h, hhN⟩ := boundK_map hhi h
        obtain ⟨lN, h, hlN⟩ := boundK_map hl h
        rw [getN_eq] at h
        refine yesV _ h fun a hs w _ => ?_
        rw [execOp, ho]; simp only; rw [R_p (opA_R hs x) ex]
        refine run_v ?_
        unfold Instr.sliceAt
        rw [run_bind (run_underlying hu)]
        simp only
        rw [run_bind (show (Instr.sureAddr (.pointer (some ⟨S.ns.getD t' 0, o', none⟩))).run C.P w = .ok _ w from rfl)]
        rw [run_bind (run_bounds (hmN a hs) (hhN a hs) (hlN a hs) (hmh a))]
        simp only
        rw [run_bind (run_sizeOf hie), hse]
        unfold slBase
        rw [run_pure]
        split <;> rfl
      · rename_i ad ex
        obtain ⟨mN, h, hmN⟩ := boundK_map hm h
        obtain ⟨hN, h, hhN⟩ := boundK_map hhi h
        obtain ⟨lN, h, hlN⟩ := boundK_map hl h
        refine yesV _ h fun a hs w _ => ?_
        rw [execOp, ho]; simp only; rw [R_v (opA_R hs x) ex]
        refine run_v ?_
        unfold Instr.sliceAt
        rw [run_bind (run_underlying hu)]
        simp only
        rw [run_bind (show (Instr.sureAddr (.pointer (some ad))).run C.P w = .ok _ w from rfl)]
        rw [run_bind (run_bounds (hmN a hs) (hhN a hs) (hlN a hs) (hmh a))]
        simp only
        rw [run_bind (run_sizeOf hie), hse]
        unfold slBase
        rw [run_pure]
        split <;> rfl
      · cases h
    · cases h

theorem yes_makeFunc {fn : Fn} {fs cs : Array Operand} (ho : o.op = .makeFunc fn fs cs) (h : evP C.P T S (.makeFunc fn fs cs) k) : Yes C S o k := by
  simp only [evP] at h
  obtain ⟨vs, h, hvs⟩ := argsK_sound h
  obtain ⟨us, h, hus⟩ := argsK_sound h
  refine yesV _ h fun a hs w _ => ?_
  rw [execOp, ho]; simp only
  refine run_v ?_
  have e1 : fs.map a.eval = vs.toArray := by apply Array.ext'; rw [Array.toList_map, hvs a hs]
  have e2 : cs.map a.eval = us.toArray := by apply Array.ext'; rw [Array.toList_map, hus a hs]
  rw [e1, e2]; rfl

theorem loadK_sound {t : TypeId} {x : AV} (hT : T.OK C.P) (h : loadK T S t x k) :
    ∃ r, k r ∧ ∀ v, x.R S.ns v → ∃ ad, v = .pointer (some ad) ∧ ∃ y, r.R S.ns y ∧ ∀ w, Mod C S w → (loadVar t ad).run C.P w = .ok y w := by
  unfold loadK at h
  split at h
  · cases h
  · rename_i d hl
    obtain ⟨i, u, z, hi, hu, hsz, _, _, hk⟩ := tdOf_info (Tr.look_ok hT hl)
    have hag := tk_agg hk
    have runL : ∀ (ad : Addr) (w : World) (y : Value) (cs : List Value), (d.k.agg = true → y = .agg cs.toArray ∧ cs.length = d.size ∧ ∀ j v, cs[j]? = some v → w.cell? (ad.add (0 + j)) = some v) →
        (d.k.agg = false → w.cell? ad = some y) → (loadVar t ad).run C.P w = .ok y w := by
      intro ad w y cs h1 h2
      unfold loadVar
      rw [run_bind (run_isAgg hu), hag]
      cases hd : d.k.agg with
      | true =>
        obtain ⟨e, hlen, hc⟩ := h1 hd
        rw [if_pos rfl, run_bind (run_sizeOf hi), hsz]
        unfold loadCells
        rw [run_bind (run_loadCells d.size 0 #[] cs hlen hc), e]; simp [run_pure]
      | false => rw [if_neg (by simp)]; exact run_load (h2 hd)
    split at h
    · rename_i t' q
      split at h
      · rename_i bt ls hb
        rw [nthH_eq] at hb
        obtain ⟨r, hkr, hall⟩ := partK_sound (ns := S.ns) h
        split at hkr
        · rename_i hdef
          refine ⟨r, hkr, fun v hv => ⟨_, R_p hv rfl, r.val S.ns, (AV.def_R hdef _).2 rfl, fun w hm => ?_⟩⟩
          obtain ⟨_, hcell, cs, rfl, hl⟩ := hm.blk t' _ hb
          obtain ⟨y, hy, hy1, hy2⟩ := hall cs hl
          rw [(AV.def_R hdef _).1 hy] at hy1 hy2
          have hcc : ∀ j v, cs[j]? = some v → w.cell? ⟨S.ns.getD t' 0, j, none⟩ = some v := by
            intro j v hj
            unfold World.cell?
            simp only [hcell]
            simpa using hj
          refine runL _ w _ ((cs.drop q).take d.size) (fun hd => ?_) (fun hd => ?_)
          · obtain ⟨h1, h2⟩ := hy1 hd
            refine ⟨h2, by rw [List.length_take, List.length_drop]; omega, fun j v hj => ?_⟩
            rw [Nat.zero_add, add_zero_off]
            refine hcc _ _ ?_
            rw [List.getElem?_take] at hj
            split at hj
            · rw [List.getElem?_drop] at hj; exact hj
            · cases hj
          · exact hcc _ _ (hy2 hd)
        · cases hkr
      · cases h
    · rename_i ad
      split at h
      · rename_i hd
        obtain ⟨cs, hc, hlen, hkk⟩ := h
        rw [forceLs_eq] at hkk
        refine ⟨.s (cs.map .v), hkk, fun v hv => ⟨ad, R_v hv rfl, .agg cs.toArray, ⟨cs, rfl, LR.of_v _⟩, fun w hm => ?_⟩⟩
        refine runL ad w _ cs (fun _ => ⟨rfl, hlen, fun j v hj => ?_⟩) (fun h' => by rw [hd] at h'; cases h')
        rw [Nat.zero_add]; exact hc.go C w hm j v hj
      · rename_i hd
        obtain ⟨v', hc, hkk⟩ := h
        rw [forceF_eq] at hkk
        refine ⟨.one (.v v'), hkk, fun v hv => ⟨ad, R_v hv rfl, v', rfl, fun w hm => ?_⟩⟩
        refine runL ad w _ [] (fun h' => by rw [hd] at h'; cases h') (fun _ => ?_)
        have := hc.go C w hm 0 v' rfl
        rwa [show ad.add 0 = ad by unfold Addr.add; simp] at this
    · cases h

theorem yes_load {t : TypeId} {x : Operand} (hT : T.OK C.P) (ho : o.op = .load t x) (h : evP C.P T S (.load t x) k) : Yes C S o k := by
  simp only [evP, opK_eq] at h
  obtain ⟨r, hk, hall⟩ := loadK_sound (C := C) hT h
  refine ⟨r, fun a hs => ?_, hk⟩
  obtain ⟨ad, hv, y, hy, hr⟩ := hall _ (opA_R hs x)
  refine ⟨y, hy, fun w hm => ?_⟩
  rw [execOp, ho]; simp only; rw [hv]
  refine run_v ?_
  unfold Instr.loadAt
  rw [run_bind (show (Instr.sureAddr (.pointer (some ad))).run C.P w = .ok ad w from rfl)]
  exact hr w hm

theorem run_builtin {P : Program} {w : World} {a : Act} {b : Builtin} {args : Array Operand} {ats : Array TypeId} {s : Sem Value} {y : Value} (ho : o.op = .call { callee := .builtin b, args, argTypes := ats })
    (hb : ∀ cs, builtin b ats o.type cs (args.map a.eval) = (do pure (.value (← s)))) (hs : s.run P w = .ok y w) : (execOp a.eval o).run P w = .ok (.value y) w := by
  rw [execOp, ho]; simp only
  show ((resolve a.eval _ _) >>= fun d => invoke d.target d.args).run P w = _
  rw [run_bind (show (resolve a.eval { callee := .builtin b, args, argTypes := ats } o.type).run P w = .ok _ w from rfl)]
  simp only [invoke]
  rw [hb]
  exact run_v hs

theorem yes_len {c : Call} {x : Operand} {t : TypeId} {args : Array Operand} {ats : Array TypeId} (hT : T.OK C.P) (ho : o.op = .call { callee := .builtin .len, args, argTypes := ats }) (ha : args.toList = [x]) (hat : ats.toList = [t])
    (h : opK S.tm x fun a => lenK T t a k) : Yes C S o k := by
  obtain rfl : args = #[x] := by apply Array.ext'; rw [ha]
  obtain rfl : ats = #[t] := by apply Array.ext'; rw [hat]
  rw [opK_eq] at h
  unfold lenK at h
  split at h
  · rename_i sz0 z0 e esz hlk
    obtain ⟨i, u, z, _, hu, _, _, _, hk⟩ := tdOf_info (Tr.look_ok hT hlk)
    obtain ⟨rfl, b, hb⟩ := tk_slice hk
    split at h
    · rename_i ab n cap ex
      refine yesV _ h fun a hs w _ => run_builtin ho (fun cs => rfl) ?_
      simp only [List.map_toArray, List.map_cons, List.map_nil]
      rw [R_v (opA_R hs x) ex]
      unfold Builtin.len_
      show ((underlying t) >>= _).run _ _ = _
      rw [run_bind (run_underlying hu)]; rfl
    · cases h
  · rename_i sz0 z0 n esz ag hlk
    obtain ⟨i, u, z, _, hu, _, _, _, hk⟩ := tdOf_info (Tr.look_ok hT hlk)
    obtain ⟨e, rfl, hb⟩ := tk_arr hk
    refine yesV _ h fun a hs w _ => run_builtin ho (fun cs => rfl) ?_
    simp only [List.map_toArray, List.map_cons, List.map_nil]
    unfold Builtin.len_
    show ((underlying t) >>= _).run _ _ = _
    rw [run_bind (run_underlying hu)]; rfl
  · rename_i sz0 z0 hlk
    obtain ⟨i, u, z, _, hu, _, _, _, hk⟩ := tdOf_info (Tr.look_ok hT hlk)
    obtain rfl := tk_str hk
    split at h
    · rename_i sv ex
      refine yesV _ h fun a hs w _ => run_builtin ho (fun cs => rfl) ?_
      simp only [List.map_toArray, List.map_cons, List.map_nil]
      rw [R_v (opA_R hs x) ex]
      unfold Builtin.len_
      show ((underlying t) >>= _).run _ _ = _
      rw [run_bind (run_underlying hu)]; rfl
    · cases h
  · cases h

theorem yes_cap {c : Call} {x : Operand} {t : TypeId} {args : Array Operand} {ats : Array TypeId} (hT : T.OK C.P) (ho : o.op = .call { callee := .builtin .cap, args, argTypes := ats }) (ha : args.toList = [x]) (hat : ats.toList = [t])
    (h : opK S.tm x fun a => capK T t a k) : Yes C S o k := by
  obtain rfl : args = #[x] := by apply Array.ext'; rw [ha]
  obtain rfl : ats = #[t] := by apply Array.ext'; rw [hat]
  rw [opK_eq] at h
  unfold capK at h
  split at h
  · rename_i sz0 z0 e esz hlk
    obtain ⟨i, u, z, _, hu, _, _, _, hk⟩ := tdOf_info (Tr.look_ok hT hlk)
    obtain ⟨rfl, b, hb⟩ := tk_slice hk
    split at h
    · rename_i ab len n ex
      refine yesV _ h fun a hs w _ => run_builtin ho (fun cs => rfl) ?_
      simp only [List.map_toArray, List.map_cons, List.map_nil]
      rw [R_v (opA_R hs x) ex]
      unfold Builtin.cap_
      show ((underlying t) >>= _).run _ _ = _
      rw [run_bind (run_underlying hu)]; rfl
    · cases h
  · cases h

theorem mmK_sound {mx : Bool} : ∀ {xs : List Operand} {kd : IntKind} {x : Int} {k : AV → Prop}, mmK mx S.tm kd x xs k →
    ∃ y : Int, k (.one (.v (.int kd y))) ∧ ∀ a : Act, Sim S a → ∀ w : World, ((xs.map a.eval).foldlM (match mx with | true => Builtin.max2 | false => Builtin.min2) (.int kd x)).run C.P w = .ok (.int kd y) w
  | [], kd, x, k, h => ⟨x, h, fun _ _ _ => rfl⟩
  | o :: os, kd, x, k, h => by
    simp only [mmK, opK_eq] at h
    split at h
    · rename_i kd' y e
      obtain ⟨z, hk, hall⟩ := mmK_sound h
      refine ⟨z, hk, fun a hs w => ?_⟩
      rw [List.map_cons, List.foldlM_cons, R_v (opA_R hs o) e]
      cases mx with
      | true => rw [run_bind (show (Builtin.max2 (.int kd x) (.int kd' y)).run C.P w = .ok (.int kd (if y > x then y else x)) w from rfl)]; exact hall a hs w
      | false => rw [run_bind (show (Builtin.min2 (.int kd x) (.int kd' y)).run C.P w = .ok (.int kd (if y < x then y else x)) w from rfl)]; exact hall a hs w
    · cases h

theorem yes_mm {mx : Bool} {args : Array Operand} {ats : Array TypeId} (ho : o.op = .call { callee := .builtin (match mx with | true => .max | false => .min), args, argTypes := ats }) (h : mm0K mx S.tm args.toList k) : Yes C S o k := by
  cases hl : args.toList with
  | nil => rw [hl] at h; cases h
  | cons x xs =>
    obtain rfl : args = (x :: xs).toArray := by apply Array.ext'; rw [hl]
    simp only [mm0K, opK_eq] at h
    split at h
    · rename_i kd n e
      obtain ⟨y, hk, hall⟩ := mmK_sound (C := C) h
      refine yesV _ hk fun a hs w _ => ?_
      have := hall a hs w
      have he := R_v (opA_R hs x) e
      cases mx with
      | true =>
        refine run_builtin ho (s := Builtin.max_ ats o.type ((x :: xs).toArray.map a.eval)) (fun cs => rfl) ?_
        unfold Builtin.max_
        simp only [List.map_toArray, List.map_cons, he]
        exact this
      | false =>
        refine run_builtin ho (s := Builtin.min_ ats o.type ((x :: xs).toArray.map a.eval)) (fun cs => rfl) ?_
        unfold Builtin.min_
        simp only [List.map_toArray, List.map_cons, he]
        exact this
    · cases h

/-- What is reckoned for a quiet operation is what it does. -/
theorem evP_sound (hT : T.OK C.P) (h : evP C.P T S o.op k) : Yes C S o k := by
  generalize ho : o.op = op at h
  cases op with
  | move x => exact yes_move (.inl ho) h
  | assign x => exact yes_move (.inr ho) h
  | pick c a b => exact yes_pick ho h
  | nilCheck x => exact yes_nil ho h
  | binOp op t x y yt => exact yes_bin hT ho h
  | unOp op t x => exact yes_un ho h
  | convert src dst x => exact yes_conv hT ho h
  | fieldAddr t x f => exact yes_fieldAddr hT ho h
  | field t x f => exact yes_field hT ho h
  | indexAddr t x i => exact yes_indexAddr hT ho h
  | index t x i => exact yes_index hT ho h
  | extract x i => exact yes_extract ho h
  | build t ps => exact yes_build hT ho h
  | slice t x lo hi mx => exact yes_slice hT ho h
  | makeFunc fn fs cs => exact yes_makeFunc ho h
  | load t x => exact yes_load hT ho h
  | call c =>
    obtain ⟨callee, args, ats⟩ := c
    simp only [evP] at h
    split at h
    · rename_i h2 h3; exact yes_len (c := default) hT ho h2 h3 h
    · rename_i h2 h3; exact yes_cap (c := default) hT ho h2 h3 h
    · exact yes_mm (mx := true) ho h
    · exact yes_mm (mx := false) ho h
    · cases h
  | _ => simp only [evP] at h

end
end Go.Ev
