/- A symbolic walk: how calls and loops are met, and how facts on data are carried on; conditions: as in the texts before it. -/
import Derived.Test.YtojhoeogikdjoaaGreatDoorEvRun
import Derived.LoopN
set_option linter.unusedSimpArgs false
set_option linter.unusedVariables false
set_option linter.unusedSectionVars false
namespace Go.Ev
open Go.RowKit

/-! ### what stays known -/
/-- What was known of data at a snapshot is known at a later one. -/
structure Later (W : World) (E : Nat → Prop) (W' : World) (E' : Nat → Prop) : Prop where
  size : W.heap.size ≤ W'.heap.size
  old : ∀ b, b < W.heap.size → ¬ E b → ¬ E' b ∧ W'.heap[b]? = W.heap[b]?

theorem Later.refl (W : World) (E : Nat → Prop) : Later W E W E := ⟨Nat.le_refl _, fun _ _ h => ⟨h, rfl⟩⟩
theorem Later.trans {W1 W2 W3 : World} {E1 E2 E3 : Nat → Prop} (h : Later W1 E1 W2 E2) (k : Later W2 E2 W3 E3) : Later W1 E1 W3 E3 :=
  ⟨Nat.le_trans h.size k.size, fun b hb he => by
    obtain ⟨h1, h2⟩ := h.old b hb he
    obtain ⟨h3, h4⟩ := k.old b (Nat.lt_of_lt_of_le hb h.size) h1
    exact ⟨h3, h4.trans h2⟩⟩
theorem Later.cell {W W' : World} {E E' : Nat → Prop} (h : Later W E W' E') {a : Addr} {v : Value} (he : ¬ E a.block) (hc : W.cell? a = some v) : ¬ E' a.block ∧ W'.cell? a = some v := by
  have hlt := World.block_lt_of_cell? _ _ hc
  obtain ⟨h1, h2⟩ := h.old a.block hlt he
  exact ⟨h1, by rw [← hc]; exact World.cell?_of_block h2⟩
theorem add_block (a : Addr) (i : Nat) : (a.add i).block = a.block := by unfold Addr.add; split <;> rfl
theorem add_zero (a : Addr) : a.add 0 = a := by unfold Addr.add; simp
theorem add_add (a : Addr) (i j : Nat) : (a.add i).add j = a.add (i + j) := by
  unfold Addr.add
  by_cases hi : i = 0 <;> by_cases hj : j = 0 <;> simp [hi, hj, Nat.add_assoc]
  all_goals omega

/-- A fact on data: it stays when only other blocks change, and with fewer excluded blocks. -/
class Stb (Pd : World → (Nat → Prop) → Prop) : Prop where
  later : ∀ {W W' : World} {E E' : Nat → Prop}, Pd W E → Later W E W' E' → Pd W' E'
theorem stb_later {W W' : World} {E E' : Nat → Prop} (hl : Later W E W' E') (Pd : World → (Nat → Prop) → Prop) [Stb Pd] (h : Pd W E) : Pd W' E' := Stb.later h hl
theorem Later.mono (W : World) {E E' : Nat → Prop} (h : ∀ b, E' b → E b) : Later W E W E' := ⟨Nat.le_refl _, fun b _ he => ⟨fun h' => he (h b h'), rfl⟩⟩

instance (p : Prop) : Stb fun _ _ => p := ⟨fun h _ => h⟩
theorem Stb.and {P Q : World → (Nat → Prop) → Prop} [hP : Stb P] [hQ : Stb Q] : Stb fun W E => P W E ∧ Q W E := ⟨fun h hl => ⟨hP.later h.1 hl, hQ.later h.2 hl⟩⟩
theorem Stb.all {ι : Type} {P : ι → World → (Nat → Prop) → Prop} (h : ∀ i, Stb (P i)) : Stb fun W E => ∀ i, P i W E := ⟨fun hp hl i => (h i).later (hp i) hl⟩
theorem Stb.ex {ι : Type} {P : ι → World → (Nat → Prop) → Prop} (h : ∀ i, Stb (P i)) : Stb fun W E => ∃ i, P i W E := ⟨fun ⟨i, hp⟩ hl => ⟨i, (h i).later hp hl⟩⟩
theorem Stb.imp {p : Prop} {P : World → (Nat → Prop) → Prop} [hP : Stb P] : Stb fun W E => p → P W E := ⟨fun h hl hp => hP.later (h hp) hl⟩

/-! ### cells that are data -/
theorem CellsAt.later {W W' : World} {E E' : Nat → Prop} {a : Addr} {cs : List Value} (h : CellsAt W E a cs) (hl : Later W E W' E') (hb : a.block < W.heap.size) : CellsAt W' E' a cs := by
  refine ⟨(hl.old _ hb h.free).1, fun i v hi => (hl.cell (by rw [add_block]; exact h.free) (h.at_ i v hi)).2⟩
/-- Cells that are data; there are some. -/
structure Dat (W : World) (E : Nat → Prop) (a : Addr) (cs : List Value) : Prop where
  c : CellsAt W E a cs
  lt : a.block < W.heap.size
instance (a : Addr) (cs : List Value) : Stb fun W E => Dat W E a cs := ⟨fun h hl => ⟨h.c.later hl h.lt, Nat.lt_of_lt_of_le h.lt hl.size⟩⟩
theorem CellsAt.dat {W : World} {E : Nat → Prop} {a : Addr} {c : Value} {cs : List Value} (h : CellsAt W E a (c :: cs)) : Dat W E a (c :: cs) :=
  ⟨h, by have := World.block_lt_of_cell? _ _ (h.at_ 0 c rfl); rwa [add_block] at this⟩
theorem CellsAt.sub {W : World} {E : Nat → Prop} {a : Addr} {cs ds : List Value} {i : Nat} (h : CellsAt W E a cs) (hd : (cs.drop i).take ds.length = ds) : CellsAt W E (a.add i) ds :=
  ⟨fun hE => h.free (by rwa [add_block] at hE), fun j v hj => by
    rw [add_add]
    refine h.at_ (i + j) v ?_
    rw [← hd, List.getElem?_take] at hj
    split at hj
    · rw [List.getElem?_drop] at hj; exact hj
    · cases hj⟩
theorem Dat.sub {W : World} {E : Nat → Prop} {a : Addr} {cs ds : List Value} {i : Nat} (h : Dat W E a cs) (hd : (cs.drop i).take ds.length = ds) : Dat W E (a.add i) ds := ⟨h.c.sub hd, by rw [add_block]; exact h.lt⟩
theorem Dat.rd {S : St} {a : Addr} {cs : List Value} (h : Dat S.W S.E a cs) : RdAt S a cs := h.c.rd
/-- A part of cells that are data, where it is read. -/
theorem Dat.rdAt {W : World} {E : Nat → Prop} {ns : List Nat} {hs : List HB} {os : List OP} {tm : List AV} {a : Addr} {cs ds : List Value} (h : Dat W E a cs) (i : Nat) (hd : (cs.drop i).take ds.length = ds) : RdAt ⟨W, E, ns, hs, os, tm⟩ (a.add i) ds := (h.sub hd).rd
theorem Dat.rd0 {W : World} {E : Nat → Prop} {ns : List Nat} {hs : List HB} {os : List OP} {tm : List AV} {a : Addr} {cs : List Value} (h : Dat W E a cs) : RdAt ⟨W, E, ns, hs, os, tm⟩ a cs := h.rd

/-! ### snapshots -/
/-- Excluded from data behind a snapshot: what was, and what is owned. -/
def Exc (E : Nat → Prop) (ns : List Nat) (fp : Nat → Nat → Prop) (n : Nat) : Nat → Prop := fun b => E b ∨ b ∈ ns ∨ ∃ i, i < n ∧ fp i b

theorem Osc.lt {os : List OP} {fp : Nat → Nat → Prop} {w : World} {Q : Nat → Prop} (h : Osc os fp w Q) {i : Nat} (hi : i < os.length) {b : Nat} (hb : fp i b) : b < w.heap.size ∧ Q b :=
  have h1 := (h i _ (List.getElem?_eq_getElem hi)).2 b hb
  ⟨h1.1, h1.2.1⟩

/-- A new snapshot: the world at hand; what is owned is no data. -/
theorem Mod.snap {C : Ctx} {S : St} {w : World} (h : Mod C S w) {fp : Nat → Nat → Prop} (ho : Osc S.os fp w fun b => b ∉ S.ns ∧ (S.E b ∨ S.W.heap.size ≤ b) ∧ (C.W0.heap.size ≤ b ∨ C.M b)) :
    Mod C ⟨w, Exc S.E S.ns fp S.os.length, S.ns, S.hs, S.os, S.tm⟩ w ∧ Later S.W S.E w (Exc S.E S.ns fp S.os.length) := by
  refine ⟨⟨h.g, h.g.size, Nat.le_refl _, fun _ _ _ _ => rfl, h.len, h.blk, h.nodup, fun n hn => .inl (.inr (.inl hn)), h.own, ?_, fun b h1 h2 => .inl (h.base b h1 h2), fp, ?_⟩, h.size, fun b hb he => ?_⟩
  · rintro b (hb | hb | ⟨i, hi, hb⟩)
    · exact Nat.lt_of_lt_of_le (h.exb b hb) h.size
    · exact h.tag_lt hb
    · exact (ho.lt hi hb).1
  · intro i o hio
    obtain ⟨h1, h2⟩ := ho i o hio
    exact ⟨h1, fun b hb => ⟨(h2 b hb).1, ⟨(h2 b hb).2.1.1, .inl (.inr (.inr ⟨i, (List.getElem?_eq_some_iff.1 hio).1, hb⟩)), (h2 b hb).2.1.2.2⟩, (h2 b hb).2.2⟩⟩
  · obtain ⟨h1, h2⟩ := h.data hb he
    refine ⟨?_, h2⟩
    rintro (hE | hn | ⟨i, hi, hf⟩)
    · exact he hE
    · exact h1 hn
    · rcases (ho.lt hi hf).2.2.1 with h3 | h3
      · exact he h3
      · omega

/-! ### calls -/
theorem ctV_of_ct {P : Program} {f : FuncId} {args : List Value} {w : World} {R : Value → World → Prop} (h : Ct P f args w R) : CtV P (.func (.func f) #[] #[]) args w R := by
  unfold CtV
  have e : (do let d ← Deferred.ofValue (.func (.func f) #[] #[]) args.toArray; invoke d.target d.args : Sem Next) = callFunc f args.toArray := by
    show callFunc f ((#[] ++ args.toArray) ++ #[]) = _
    congr 1; simp
  rw [e, h.1 w]
  exact h.2

/-- A closure's call: what it captured stands behind the arguments. -/
theorem ctV_of_closure {P : Program} {f : FuncId} {cs : Array Value} {args : List Value} {w : World} {R : Value → World → Prop} (h : Ct P f (args ++ cs.toList) w R) : CtV P (.func (.func f) #[] cs) args w R := by
  unfold CtV
  have e : (do let d ← Deferred.ofValue (.func (.func f) #[] cs) args.toArray; invoke d.target d.args : Sem Next) = callFunc f (args ++ cs.toList).toArray := by
    show callFunc f ((#[] ++ args.toArray) ++ cs) = _
    congr 1; apply Array.ext'; simp
  rw [e, h.1 w]
  exact h.2


section
variable {C : Ctx} {T : Tr} {S : St} {m : Bool} {k : AV → St → Prop}

theorem callV_quiet {fv : Value} {args : List Value} {v : Value} (h : ∀ w, Mod C S w → CtV C.P fv args w fun v' w' => v' = v ∧ Below w.heap.size w w') (hk : force (ofVal v) fun r => k r S) : CallVC C m fv args S k := by
  rw [force_eq] at hk
  exact ⟨fun w hm => (h w hm).mono fun v' w' ⟨e, hb⟩ => ⟨fun _ => hb, S, ofVal v, fun _ h => h, hm.below hb, by rw [e]; exact ofVal_R _ v, hk⟩⟩

/-- A call whose answer is known and that makes at most new memory. -/
theorem call_quiet {f : FuncId} {args : List Value} {v : Value} (h : ∀ w, Ct C.P f args w fun v' w' => v' = v ∧ Below w.heap.size w w') (hk : force (ofVal v) fun r => k r S) : CallVC C m (.func (.func f) #[] #[]) args S k :=
  callV_quiet (fun w _ => ctV_of_ct (h w)) hk
theorem call_quietM {f : FuncId} {args : List Value} {v : Value} (h : ∀ w, Mod C S w → Ct C.P f args w fun v' w' => v' = v ∧ Below w.heap.size w w') (hk : force (ofVal v) fun r => k r S) : CallVC C m (.func (.func f) #[] #[]) args S k :=
  callV_quiet (fun w hm => ctV_of_ct (h w hm)) hk
end

theorem Gl.refl (w : World) (F : Nat → Prop) : Gl w F w := ⟨rfl, rfl, rfl, Nat.le_refl _, fun _ _ _ => rfl⟩
theorem Gl.below {w w' : World} (g : Gl w (fun _ => False) w') : Below w.heap.size w w' := ⟨g.os, g.tape, g.output, g.size, fun k hk => g.old k hk (fun h => h)⟩
theorem gl_of_below {w w' : World} {F : Nat → Prop} (h : Below w.heap.size w w') : Gl w F w' := ⟨h.os, h.tape, h.output, h.size, fun k hk _ => h.block k hk⟩
theorem Gl.mono {w w' : World} {F G : Nat → Prop} (g : Gl w F w') (h : ∀ b, F b → G b) : Gl w G w' := ⟨g.os, g.tape, g.output, g.size, fun k hk hg => g.old k hk (fun hf => hg (h k hf))⟩
theorem Gl.trans {w1 w2 w3 : World} {F : Nat → Prop} (g : Gl w1 F w2) (h : Gl w2 F w3) : Gl w1 F w3 :=
  ⟨h.os.trans g.os, h.tape.trans g.tape, h.output.trans g.output, Nat.le_trans g.size h.size, fun k hk hf => (h.old k (Nat.lt_of_lt_of_le hk g.size) hf).trans (g.old k hk hf)⟩
theorem Gl.drawn {w : World} {F : Nat → Prop} (n : Nat) : Gl w F { w with drawn := n } := ⟨rfl, rfl, rfl, Nat.le_refl _, fun _ _ _ => rfl⟩
theorem Mod.out {P : Program} {w w' : World} {S : St} {X : Nat → Prop} (h : Mod ⟨P, w, fun _ => False, X⟩ S w') : Below w.heap.size w w' := h.g.below

/-! ### calls that only reckon -/
/-- The answer is 'v', and at most new memory is made. -/
structure Cq (P : Program) (f : FuncId) (args : List Value) (v : Value) : Prop where
  go : ∀ w, Ct P f args w fun v' w' => v' = v ∧ Below w.heap.size w w'

theorem ret_q {P : Program} {w0 : World} {X : Nat → Prop} {S : St} {v x : Value} (h : v = x) : RetVC ⟨P, w0, fun _ => False, X⟩ S v (fun v' w' => v' = x ∧ Below w0.heap.size w0 w') :=
  ⟨fun _ hm => ⟨h, hm.out⟩⟩

theorem cq_of_ev {P : Program} {T : Tr} {f : FuncId} {fn : Func} {c : Code} {args : List Value} {v : Value} (hT : T.OK P) (hmix : P.follows .mixedOrders = true)
    (hf : P.funcs[f]? = some fn) (hn : (fn.name == "runtime.NumGoroutine") = false) (hb : fn.body = some c)
    (h : ∀ w, forceT (argAVs args fn.ntmps) fun tm => ev ⟨P, w, fun _ => False, fun _ => False⟩ T c ⟨w, fun b => False ∧ b < w.heap.size, [], [], [], tm⟩ (retK ⟨P, w, fun _ => False, fun _ => False⟩ T fn.results.toList fun v' w' => v' = v ∧ Below w.heap.size w w')) : Cq P f args v :=
  ⟨fun w => ct_of_ev hT hmix hf hn hb _ (h w)⟩

section
variable {C : Ctx} {T : Tr} {S : St} {m : Bool} {k : AV → St → Prop}
theorem call_q {f : FuncId} {args : List Value} {v : Value} (h : Cq C.P f args v) (hk : force (ofVal v) fun r => k r S) : CallVC C m (.func (.func f) #[] #[]) args S k := call_quiet h.go hk

/-! ### whole numbers -/
theorem i64_id {x : Int} (h : -9223372036854775808 ≤ x ∧ x ≤ 9223372036854775807) : IntKind.i64.wrap x = x := by
  have e1 : (2 : Int) ^ 64 = 18446744073709551616 := by decide
  have e2 : (2 : Int) ^ (64 - 1) = 9223372036854775808 := by decide
  unfold IntKind.wrap
  simp only [IntKind.bits, IntKind.signed, Bool.true_and, decide_eq_true_eq, e1, e2]
  split <;> omega

/-! ### loops -/
/-- At most so many rounds, one behind the other. -/
noncomputable def rnd (C : Ctx) (T : Tr) (body : Code) (K : Exit → St → Prop) (n : Nat) : St → Prop :=
  @Nat.rec (fun _ => St → Prop) (fun _ => False) (fun _ ih S => ev C T body S (thenK K ih)) n

theorem loop_rounds {body : Code} {K : Exit → St → Prop} (hT : T.OK C.P) (hmix : C.P.follows .mixedOrders = true) (n : Nat) (h : rnd C T body K n S) : LoopVC C T body S K := by
  refine ⟨fun a w hs hm => wp_loop_rounds n ?_⟩
  induction n generalizing S a w with
  | zero => exact h.elim
  | succ n ih =>
    rw [rounds_succ]
    refine wp_mono (ev_sound hT hmix body S _ h a w hs hm) ?_
    rintro e a' w' ⟨S', h1, h2, h3⟩
    cases e with
    | normal => exact ih h1 a' w' h2 h3
    | _ => exact ⟨S', h1, h2, h3⟩

/-- The slots that a piece of code may write. -/
def asgO : List Oper → List Nat
  | [] => []
  | o :: l => match o.dst with
    | some d => d :: asgO l
    | none => asgO l
def appN : List Nat → List Nat → List Nat
  | [], l => l
  | a :: l, m => a :: appN l m
def asg : Code → List Nat
  | .seq a b => appN (asg a) (asg b)
  | .cond _ a b => appN (asg a) (asg b)
  | .block _ a => asg a
  | .loop a => asg a
  | .scope a => asg a
  | .region _ ops _ => asgO ops.toList
  | _ => []

def memB (n : Nat) : List Nat → Bool
  | [] => false
  | a :: l => match Nat.beq n a with
    | true => true
    | false => memB n l
/-- Slots of which nothing is known any more. -/
def maskT (ds : List Nat) : Nat → List AV → List AV
  | _, [] => []
  | i, a :: l => (match memB i ds with | true => .one .any | false => a) :: maskT ds (i + 1) l
def patT : List AV → List (Nat × AV) → List AV
  | l, [] => l
  | l, (i, a) :: ps => patT (l.set i a) ps
def eqL (tm : List AV) : List (Nat × AV) → Prop
  | [] => True
  | (i, a) :: ps => tm.getD i (.one .any) = a ∧ eqL tm ps

theorem maskT_R {ns : List Nat} (ds : List Nat) : ∀ (i : Nat) {tm : List AV} {cs : List Value}, TR ns tm cs → TR ns (maskT ds i tm) cs
  | _, [], [], _ => trivial
  | i, a :: l, c :: cs, h => by
    refine ⟨?_, maskT_R ds (i + 1) h.2⟩
    cases memB i ds with
    | true => exact trivial
    | false => exact h.1
  | _, [], _ :: _, h => h.elim
  | _, _ :: _, [], h => h.elim

theorem patT_R {ns : List Nat} {tm0 : List AV} {cs : List Value} (h0 : TR ns tm0 cs) : ∀ (ps : List (Nat × AV)) {tm : List AV}, TR ns tm cs → eqL tm0 ps → TR ns (patT tm ps) cs
  | [], _, h, _ => h
  | (i, a) :: ps, tm, h, he => by
    refine patT_R h0 ps ?_ he.2
    have := he.1
    cases e : tm0[i]? with
    | none =>
      rw [List.set_eq_of_length_le]
      · exact h
      · rw [h.length, ← h0.length]; exact List.getElem?_eq_none_iff.1 e
    | some x =>
      obtain ⟨c, hc, hr⟩ := h0.get i x e
      rw [List.getD_eq_getElem?_getD, e] at this
      simp only [Option.getD_some] at this
      subst this
      have := h.set i hr
      have h2 : cs.set i c = cs := by
        apply List.ext_getElem?
        intro j
        rw [List.getElem?_set]
        split
        · subst_vars; split
          · exact hc.symm
          · rename_i hl; rw [List.getElem?_eq_none (by omega)]
        · rfl
      rw [h2] at this; exact this



theorem TR_iff {ns : List Nat} : ∀ {l : List AV} {cs : List Value}, TR ns l cs ↔ l.length = cs.length ∧ ∀ (i : Nat) (a : AV) (c : Value), l[i]? = some a → cs[i]? = some c → a.R ns c
  | [], [] => by simp [TR]
  | [], _ :: _ => by simp [TR]
  | _ :: _, [] => by simp [TR]
  | a :: l, c :: cs => by
    simp only [TR, TR_iff (l := l), List.length_cons, Nat.add_right_cancel_iff]
    constructor
    · rintro ⟨h1, h2, h3⟩
      refine ⟨h2, fun i x y hx hy => ?_⟩
      cases i with
      | zero => simp at hx hy; subst hx; subst hy; exact h1
      | succ i => exact h3 i x y (by simpa using hx) (by simpa using hy)
    · rintro ⟨h1, h2⟩
      exact ⟨h2 0 a c rfl rfl, h1, fun i x y hx hy => h2 (i + 1) x y (by simpa using hx) (by simpa using hy)⟩

theorem maskT_get (ds : List Nat) : ∀ (j : Nat) (l : List AV) (i : Nat), (maskT ds j l)[i]? = (l[i]?).map fun a => match memB (j + i) ds with | true => .one .any | false => a
  | _, [], _ => by simp [maskT]
  | j, a :: l, 0 => by simp only [maskT, List.getElem?_cons_zero, Nat.add_zero, Option.map_some]
  | j, a :: l, i + 1 => by simp only [maskT, List.getElem?_cons_succ]; rw [maskT_get ds (j + 1) l i, show j + 1 + i = j + (i + 1) by omega]

theorem patT_get : ∀ (ps : List (Nat × AV)) (l : List AV) (i : Nat), memB i (ps.map (·.1)) = false → (patT l ps)[i]? = l[i]?
  | [], _, _, _ => rfl
  | (j, a) :: ps, l, i, h => by
    simp only [List.map_cons, memB] at h
    split at h
    · cases h
    · rename_i hb
      simp only [patT]
      rw [patT_get ps _ i h, List.getElem?_set, if_neg]
      exact fun e => by subst e; simp [Nat.beq_refl] at hb

theorem patT_get' : ∀ (ps : List (Nat × AV)) (l : List AV) (i : Nat) (x : AV), memB i (ps.map (·.1)) = true → (patT l ps)[i]? = some x → i < l.length ∧ ∃ p ∈ ps, p.1 = i ∧ p.2 = x
  | [], _, _, _, h, _ => by simp [memB] at h
  | (j, a) :: ps, l, i, x, h, hx => by
    simp only [patT] at hx
    cases hm : memB i (ps.map (·.1)) with
    | true =>
      obtain ⟨h1, p, hp, h2⟩ := patT_get' ps _ i x hm hx
      exact ⟨by simpa using h1, p, List.mem_cons_of_mem _ hp, h2⟩
    | false =>
      rw [patT_get ps _ i hm, List.getElem?_set] at hx
      simp only [List.map_cons, memB] at h
      split at h
      · rename_i hb
        have e := Nat.eq_of_beq_eq_true hb
        subst e
        rw [if_pos rfl] at hx
        split at hx
        · rename_i hlt
          simp only [Option.some.injEq] at hx
          exact ⟨hlt, _, List.mem_cons_self, rfl, hx⟩
        · cases hx
      · rw [hm] at h; cases h

theorem eqL_mem {tm : List AV} : ∀ {ps : List (Nat × AV)}, eqL tm ps → ∀ p ∈ ps, tm.getD p.1 (.one .any) = p.2
  | [], _, _, h => by cases h
  | (i, a) :: ps, h, p, hp => by
    rcases List.mem_cons.1 hp with rfl | hp
    · exact h.1
    · exact eqL_mem h.2 p hp

theorem memB_app (i : Nat) : ∀ (l m : List Nat), memB i (appN l m) = (memB i l || memB i m)
  | [], m => by simp [appN, memB]
  | a :: l, m => by
    simp only [appN, memB]
    split
    · simp
    · exact memB_app i l m

theorem patT_len : ∀ (ps : List (Nat × AV)) (l : List AV), (patT l ps).length = l.length
  | [], _ => rfl
  | (i, a) :: ps, l => by simp only [patT]; rw [patT_len ps]; simp
theorem maskT_len (ds : List Nat) : ∀ (i : Nat) (l : List AV), (maskT ds i l).length = l.length
  | _, [] => rfl
  | i, a :: l => by simp [maskT, maskT_len ds (i + 1) l]

theorem patT_eq {ns : List Nat} {tm0 tm : List AV} {cs : List Value} {ps : List (Nat × AV)} {ds : List Nat} (h0 : TR ns tm0 cs) (he : eqL tm0 ps)
    (hm : maskT (appN (ps.map (·.1)) ds) 0 tm0 = maskT (appN (ps.map (·.1)) ds) 0 tm) : TR ns (patT (maskT ds 0 tm) ps) cs := by
  rw [TR_iff] at h0 ⊢
  have hlen : tm0.length = tm.length := by
    have := congrArg List.length hm
    rwa [maskT_len, maskT_len] at this
  refine ⟨(by rw [patT_len, maskT_len, ← hlen]; exact h0.1), fun i a c ha hc => ?_⟩
  cases hp : memB i (ps.map (·.1)) with
  | true =>
    obtain ⟨hlt, p, hpm, e1, e2⟩ := patT_get' ps _ i a hp ha
    have := eqL_mem he p hpm
    rw [e1, e2, List.getD_eq_getElem?_getD] at this
    rw [maskT_len, ← hlen] at hlt
    rw [List.getElem?_eq_getElem hlt] at this
    simp only [Option.getD_some] at this
    exact h0.2 i a c (by rw [List.getElem?_eq_getElem hlt, this]) hc
  | false =>
    rw [patT_get ps _ i hp, maskT_get] at ha
    simp only [Nat.zero_add] at ha
    cases hd : memB i ds with
    | true =>
      rw [hd] at ha
      cases ht : tm[i]? with
      | none => rw [ht] at ha; cases ha
      | some x => rw [ht] at ha; simp at ha; subst ha; trivial
    | false =>
      rw [hd] at ha
      have h1 : tm[i]? = some a := by
        cases ht : tm[i]? with
        | none => rw [ht] at ha; cases ha
        | some x => rw [ht] at ha; simpa using ha
      have h2 := congrArg (fun l => l[i]?) hm
      simp only [maskT_get, Nat.zero_add, memB_app, hp, hd, Bool.or_false, h1, Option.map_some] at h2
      have h3 : tm0[i]? = some a := by
        cases ht : tm0[i]? with
        | none => rw [ht] at h2; cases h2
        | some x => rw [ht] at h2; simpa using h2
      exact h0.2 i a c h3 hc


theorem Lf.R_shrink {ns ms : List Nat} {l : Lf} {c : Value} (hw : l.wf ns.length = true) (h : l.R (ns ++ ms) c) : l.R ns c := by
  cases l with
  | p t o =>
    have ht : t < ns.length := by simpa [Lf.wf, Nat.blt_eq] using hw
    simp only [Lf.R] at h ⊢
    rw [h]; simp [List.getD_eq_getElem?_getD, List.getElem?_append_left ht]
  | _ => exact h
theorem LR.shrink (ns ms : List Nat) : ∀ (ls : List Lf) (cs : List Value), wfL ns.length ls = true → LR (ns ++ ms) ls cs → LR ns ls cs
  | [], [], _, _ => trivial
  | l :: ls, c :: cs, hw, h => by
    have h1 : l.wf ns.length = true := by cases e : l.wf ns.length <;> simp [wfL, e] at hw ⊢
    have h2 : wfL ns.length ls = true := by simpa [wfL, h1] using hw
    exact ⟨Lf.R_shrink h1 h.1, LR.shrink ns ms ls cs h2 h.2⟩
  | [], _ :: _, _, h => h.elim
  | _ :: _, [], _, h => h.elim
theorem UR1.shrink (ns ms : List Nat) : ∀ (e : Bool × List Lf) (v : Value), wfL ns.length e.2 = true → UR1 (ns ++ ms) e v → UR1 ns e v
  | (true, ls), v, hw, ⟨cs, h1, h2⟩ => ⟨cs, h1, LR.shrink ns ms _ _ hw h2⟩
  | (false, [l]), v, hw, h => by
    have h1 : l.wf ns.length = true := by cases e : l.wf ns.length <;> simp [wfL, e] at hw ⊢
    exact Lf.R_shrink h1 h
  | (false, []), _, _, h => h.elim
  | (false, _ :: _ :: _), _, _, h => h.elim
theorem UR.shrink (ns ms : List Nat) : ∀ (es : List (Bool × List Lf)) (vs : List Value), wfU ns.length es = true → UR (ns ++ ms) es vs → UR ns es vs
  | [], [], _, _ => trivial
  | e :: es, v :: vs, hw, h => by
    have h1 : wfL ns.length e.2 = true := by cases e1 : wfL ns.length e.2 <;> simp [wfU, e1] at hw ⊢
    have h2 : wfU ns.length es = true := by simpa [wfU, h1] using hw
    exact ⟨UR1.shrink ns ms e v h1 h.1, UR.shrink ns ms es vs h2 h.2⟩
  | [], _ :: _, _, h => h.elim
  | _ :: _, [], _, h => h.elim
theorem AV.R_shrink {ns ms : List Nat} {l : AV} {c : Value} (hw : l.wf ns.length = true) (h : l.R (ns ++ ms) c) : l.R ns c := by
  cases l with
  | one l => exact Lf.R_shrink (l := l) hw h
  | s ls => obtain ⟨cs, e, hc⟩ := h; exact ⟨cs, e, LR.shrink ns ms _ _ hw hc⟩
  | u es => obtain ⟨vs, e, hc⟩ := h; exact ⟨vs, e, UR.shrink ns ms _ _ hw hc⟩
theorem patT_wf : ∀ (ns ms : List Nat) {tm : List AV} {cs : List Value}, wfT ns.length tm = true → TR (ns ++ ms) tm cs → TR ns tm cs
  | ns, ms, [], [], _, _ => trivial
  | ns, ms, l :: ls, c :: cs, hw, h => by
    have h1 : l.wf ns.length = true := by
      cases e : l.wf ns.length <;> simp [wfT, e] at hw ⊢
    have h2 : wfT ns.length ls = true := by simpa [wfT, h1] using hw
    exact ⟨AV.R_shrink h1 h.1, patT_wf ns ms h2 h.2⟩
  | _, _, [], _ :: _, _, h => h.elim
  | _, _, _ :: _, [], _, h => h.elim
theorem HB.At.shrink {ns ms : List Nat} {b : HB} {o : Obj} (hw : b.wf ns.length = true) (h : b.At (ns ++ ms) o) : b.At ns o := by
  cases b with
  | k t ls => obtain ⟨cs, e, hl⟩ := h; exact ⟨cs, e, LR.shrink ns ms _ _ hw hl⟩
  | o ob => exact h

/-- Owned blocks that were made since may be forgotten; also what is owned beyond 'os'. -/
theorem Mod.forget {w : World} {W : World} {E : Nat → Prop} {ns ms : List Nat} {hs gs : List HB} {os qs : List OP} {tm tm' : List AV} (h : Mod C ⟨W, E, ns ++ ms, hs ++ gs, os ++ qs, tm⟩ w)
    (hl : ns.length = hs.length) (hwf : wfH ns.length hs = true) : Mod C ⟨W, E, ns, hs, os, tm'⟩ w where
  g := h.g
  le0 := h.le0
  size := h.size
  old := fun i hi he hn => by
    refine h.old i hi he fun hm => ?_
    rcases h.sep i hm with h1 | h1
    · exact he h1
    · exact absurd hi (Nat.not_lt.2 h1)
  len := hl
  blk := fun t b hb => by
    have hb : hs[t]? = some b := hb
    have hlt := (List.getElem?_eq_some_iff.1 hb).1
    obtain ⟨o, hc, hlr⟩ := h.blk t b (by show (hs ++ gs)[t]? = _; rw [List.getElem?_append_left hlt]; exact hb)
    refine ⟨o, ?_, HB.At.shrink (wfH_get hwf t b hb) hlr⟩
    have : (ns ++ ms).getD t 0 = ns.getD t 0 := by
      rw [List.getD_eq_getElem?_getD, List.getD_eq_getElem?_getD, List.getElem?_append_left (by omega)]
    rw [← this]; exact hc
  nodup := (List.nodup_append.1 h.nodup).1
  sep := fun n hn => h.sep n (List.mem_append_left _ hn)
  own := fun n hn => h.own n (List.mem_append_left _ hn)
  exb := h.exb
  base := h.base
  osc := by
    obtain ⟨fp, ho⟩ := h.osc
    refine ⟨fp, fun i o hio => ?_⟩
    have hio : os[i]? = some o := hio
    have hlt := (List.getElem?_eq_some_iff.1 hio).1
    obtain ⟨h1, h2⟩ := ho i o (by show (os ++ qs)[i]? = _; rw [List.getElem?_append_left hlt]; exact hio)
    exact ⟨h1, fun b hb => ⟨(h2 b hb).1, ⟨fun hm => (h2 b hb).2.1.1 (List.mem_append_left _ hm), (h2 b hb).2.1.2⟩, fun j hj hjl => (h2 b hb).2.2 j hj (by show j < (os ++ qs).length; rw [List.length_append]; have : j < os.length := hjl; omega)⟩⟩

/-- A loop: 'f' says the slots, 's' the snapshot and what is owned, at a round's begin; what else the body writes is forgotten. -/
structure LS where
  W : World
  E : Nat → Prop
  ns : List Nat
  hs : List HB
  os : List OP
  tm : List (Nat × AV)
def LS.st (x : LS) (ds : List Nat) (tm : List AV) : St := ⟨x.W, x.E, x.ns, x.hs, x.os, patT (maskT ds 0 tm) x.tm⟩

/-- A goal that the walk leaves alone. -/
structure Pv (p : Prop) : Prop where
  go : p
def endK (body : Code) (tm : List AV) {ι : Type} (f : ι → LS) (Inv : ι → Prop) (μ : ι → Nat) (x : ι) (S' : St) : Prop :=
  ∃ y, Pv (Inv y ∧ μ y < μ x) ∧ eqL S'.tm (f y).tm ∧ S'.W = (f y).W ∧ S'.E = (f y).E ∧ (∃ ms, S'.ns = (f y).ns ++ ms) ∧ (∃ gs, S'.hs = (f y).hs ++ gs) ∧ (∃ qs, S'.os = (f y).os ++ qs) ∧
    maskT (appN ((f y).tm.map (·.1)) (asg body)) 0 S'.tm = maskT (appN ((f y).tm.map (·.1)) (asg body)) 0 tm

theorem loop_g {body : Code} {K : Exit → St → Prop} {W : World} {E : Nat → Prop} {ns : List Nat} {hs : List HB} {os : List OP} {tm : List AV} (hT : T.OK C.P) (hmix : C.P.follows .mixedOrders = true)
    {ι : Type} (f : ι → LS) (Inv : ι → Prop) (μ : ι → Nat) (x0 : ι)
    (init : Inv x0 ∧ eqL tm (f x0).tm ∧ W = (f x0).W ∧ E = (f x0).E ∧ (∃ ms, ns = (f x0).ns ++ ms) ∧ (∃ gs, hs = (f x0).hs ++ gs) ∧ (∃ qs, os = (f x0).os ++ qs))
    (chk : ∀ x, ((f x).ns.length = (f x).hs.length ∧ wfH (f x).ns.length (f x).hs = true) ∧ wfT (f x).ns.length ((f x).st (asg body) tm).tm = true)
    (round : ∀ x, Inv x → forceT ((f x).st (asg body) tm).tm fun tm1 => ev C T body ⟨(f x).W, (f x).E, (f x).ns, (f x).hs, (f x).os, tm1⟩ (thenK K (endK body tm f Inv μ x))) :
    LoopVC C T body ⟨W, E, ns, hs, os, tm⟩ K := by
  refine ⟨EV.loop (fun x => (f x).st (asg body) tm) μ Inv ?_ ?_⟩
  · intro a w hs' hm
    obtain ⟨h1, h3, rfl, rfl, ⟨ms, rfl⟩, ⟨gs, rfl⟩, ⟨qs, rfl⟩⟩ := init
    refine ⟨x0, h1, ⟨hs'.d, ?_⟩, hm.forget (chk x0).1.1 (chk x0).1.2⟩
    exact patT_wf _ ms (chk x0).2 (patT_R hs'.t _ (maskT_R _ 0 hs'.t) h3)
  · intro x hx
    have hr := round x hx
    rw [forceT_eq] at hr
    refine EV.mono (ev_sound hT hmix body _ _ hr) ?_
    intro e S' hk
    cases e with
    | normal =>
      obtain ⟨y, ⟨hy1, hy2⟩, he, hW, hE, ⟨ms, hn⟩, ⟨gs, hg⟩, ⟨qs, hq⟩, hmask⟩ := hk
      intro a w hs' hm
      obtain ⟨W', E', ns', hs2, os', tm'⟩ := S'
      simp only at hW hE hn hg hq
      subst hW; subst hE; subst hn; subst hg; subst hq
      obtain ⟨⟨q1, q2⟩, q3⟩ := chk y
      refine ⟨y, hy1, hy2, ⟨hs'.d, ?_⟩, hm.forget q1 q2⟩
      refine patT_wf _ ms q3 ?_
      have h0 : TR _ tm' a.tmps.toList := hs'.t
      exact patT_eq h0 he hmask
    | _ => exact hk

/-- A loop that changes slots alone (what it makes is forgotten). -/
theorem loop_s {body : Code} {K : Exit → St → Prop} {W : World} {E : Nat → Prop} {ns : List Nat} {hs : List HB} {os : List OP} {tm : List AV} (hT : T.OK C.P) (hmix : C.P.follows .mixedOrders = true)
    {ι : Type} (f : ι → List (Nat × AV)) (Inv : ι → Prop) (μ : ι → Nat) (x0 : ι) (init : Inv x0 ∧ eqL tm (f x0))
    (chk : ∀ x, (ns.length = hs.length ∧ wfH ns.length hs = true) ∧ wfT ns.length (patT (maskT (asg body) 0 tm) (f x)) = true)
    (round : ∀ x, Inv x → forceT (patT (maskT (asg body) 0 tm) (f x)) fun tm1 => ev C T body ⟨W, E, ns, hs, os, tm1⟩ (thenK K (endK body tm (fun x => (⟨W, E, ns, hs, os, f x⟩ : LS)) Inv μ x))) :
    LoopVC C T body ⟨W, E, ns, hs, os, tm⟩ K :=
  loop_g hT hmix (fun x => ⟨W, E, ns, hs, os, f x⟩) Inv μ x0 ⟨init.1, init.2, rfl, rfl, ⟨[], (List.append_nil _).symm⟩, ⟨[], (List.append_nil _).symm⟩, ⟨[], (List.append_nil _).symm⟩⟩ chk round
/-- A loop that changes slots and what is owned. -/
theorem loop_o {body : Code} {K : Exit → St → Prop} {W : World} {E : Nat → Prop} {ns : List Nat} {hs : List HB} {os : List OP} {tm : List AV} (hT : T.OK C.P) (hmix : C.P.follows .mixedOrders = true)
    {ι : Type} (f : ι → List (Nat × AV)) (o : ι → List OP) (Inv : ι → Prop) (μ : ι → Nat) (x0 : ι) (init : (Inv x0 ∧ eqL tm (f x0)) ∧ ∃ qs, os = o x0 ++ qs)
    (chk : ∀ x, (ns.length = hs.length ∧ wfH ns.length hs = true) ∧ wfT ns.length (patT (maskT (asg body) 0 tm) (f x)) = true)
    (round : ∀ x, Inv x → forceT (patT (maskT (asg body) 0 tm) (f x)) fun tm1 => ev C T body ⟨W, E, ns, hs, o x, tm1⟩ (thenK K (endK body tm (fun x => (⟨W, E, ns, hs, o x, f x⟩ : LS)) Inv μ x))) :
    LoopVC C T body ⟨W, E, ns, hs, os, tm⟩ K :=
  loop_g hT hmix (fun x => ⟨W, E, ns, hs, o x, f x⟩) Inv μ x0 ⟨init.1.1, init.1.2, rfl, rfl, ⟨[], (List.append_nil _).symm⟩, ⟨[], (List.append_nil _).symm⟩, init.2⟩ chk round

end
end Go.Ev
