/- A symbolic walk: operations that make or write memory, and calls; conditions: the table of types is the program's. -/
import Derived.Test.YtojhoeogikdjoaaGreatDoorEvPure2
set_option linter.unusedSimpArgs false
set_option linter.unusedVariables false
namespace Go.Ev
open Go.RowKit

/-- One step; with 'm' it only makes new memory. -/
def StepB (C : Ctx) (m : Bool) (o : Oper) (S : St) (k : St → Prop) : Prop :=
  ∀ a w, Sim S a → Mod C S w → OKs C.P o a w fun a' w' => (m = true → Below w.heap.size w w') ∧ ∃ S', k S' ∧ Sim S' a' ∧ Mod C S' w'

structure OpVC (C : Ctx) (m : Bool) (o : Oper) (S : St) (k : St → Prop) : Prop where
  go : StepB C m o S k

/-- What a reckoning over the model's own words comes to. -/
structure SemVC (C : Ctx) (m : Bool) (s : Sem Value) (S : St) (k : AV → St → Prop) : Prop where
  go : ∀ w, Mod C S w → ∃ y w', s.run C.P w = .ok y w' ∧ (m = true → Below w.heap.size w w') ∧ ∃ S' r, (∀ a, Sim S a → Sim S' a) ∧ Mod C S' w' ∧ AV.R S'.ns r y ∧ k r S'

def opsOf : Op → List Operand
  | .makeSlice _ l c => [l, c]
  | .makeMap _ (some r) => [r]
  | .lookup _ x i _ => [x, i]
  | .mapUpdate _ m k x => [m, k, x]
  | .insert _ m k x => [m, k, x]
  | .mapEntry _ m k => [m, k]
  | .entryStore _ m s x => [m, s, x]
  | .range _ x => [x]
  | .next it _ => [it]
  | .entry it => [it]
  | .store _ a x => [a, x]
  | .call c => match c.callee with
    | .builtin _ => c.args.toList
    | _ => []
  | _ => []
def semOf (op : Op) (ty : TypeId) (vs : List Value) : Option (Sem Value) :=
  match op, vs with
  | .makeSlice t _ _, [l, c] => some (Instr.makeSlice t l c)
  | .makeMap t none, [] => some (Instr.makeMap t none)
  | .makeMap t (some _), [r] => some (Instr.makeMap t (some r))
  | .lookup t _ _ ok, [x, i] => some (Instr.lookup t x i ok)
  | .mapUpdate t _ _ _, [m, k, x] => some (do Instr.mapUpdate t m k x; pure undef)
  | .insert t _ _ _, [m, k, x] => some (do Instr.mapUpdate t m k x; pure undef)
  | .mapEntry t _ _, [m, k] => some (Instr.mapEntry t m k)
  | .entryStore t _ _ _, [m, s, x] => some (do Instr.entryStore t m s x; pure undef)
  | .range t _, [x] => some (Instr.range t x)
  | .next _ b, [it] => some (Instr.next it b ty)
  | .entry _, [it] => some (Instr.entry it)
  | .store t _ _, [a, x] => some (do Instr.storeAt t a x; pure undef)
  | .call c, vs => (match c.callee with
    | .builtin .append => some (Builtin.append_ c.argTypes ty vs.toArray)
    | .builtin .copy => some (Builtin.copy_ c.argTypes ty vs.toArray)
    | .builtin .delete => some (Builtin.delete_ c.argTypes ty vs.toArray)
    | .builtin .clear => some (Builtin.clear_ c.argTypes ty vs.toArray)
    | .builtin .len => some (Builtin.len_ c.argTypes ty vs.toArray)
    | _ => none)
  | _, _ => none

/-- What a call of a function's value comes to. -/
def UponV (P : Program) (R : Value → World → Prop) : Result Next → Prop
  | .ok (.value v) w' => R v w'
  | .ok (.enter f args) w' => Calls P f args w' fun e w'' => ∃ v, e = .returned v ∧ R v w''
  | _ => False

def CtV (P : Program) (fv : Value) (args : List Value) (w : World) (R : Value → World → Prop) : Prop :=
  UponV P R ((do let d ← Deferred.ofValue fv args.toArray; invoke d.target d.args : Sem Next).run P w)

structure CallVC (C : Ctx) (m : Bool) (fv : Value) (args : List Value) (S : St) (k : AV → St → Prop) : Prop where
  go : ∀ w, Mod C S w → CtV C.P fv args w fun v w' => (m = true → Below w.heap.size w w') ∧ ∃ S' r, (∀ a, Sim S a → Sim S' a) ∧ Mod C S' w' ∧ AV.R S'.ns r v ∧ k r S'

theorem UponV.mono {P : Program} {R R' : Value → World → Prop} {r : Result Next} (h : UponV P R r) (hr : ∀ v w, R v w → R' v w) : UponV P R' r := by
  unfold UponV at h ⊢
  split at h
  · exact hr _ _ h
  · exact Calls.mono h fun e w' ⟨v, e1, h1⟩ => ⟨v, e1, hr _ _ h1⟩
  · cases h

theorem CtV.mono {P : Program} {fv : Value} {args : List Value} {w : World} {R R' : Value → World → Prop} (h : CtV P fv args w R) (hr : ∀ v w, R v w → R' v w) : CtV P fv args w R' := UponV.mono h hr

/-! ### handing on -/
def putK (S : St) (dst : Option Tmp) (r : AV) (k : St → Prop) : Prop :=
  force r fun r => match S with
    | ⟨W, E, ns, hs, os, tm⟩ => match dst with
      | none => k ⟨W, E, ns, hs, os, tm⟩
      | some d => setK tm d r fun tm => k ⟨W, E, ns, hs, os, tm⟩
theorem putK_eq (S : St) (dst : Option Tmp) (r : AV) (k : St → Prop) : putK S dst r k = k (S.put dst r) := by
  obtain ⟨W, E, ns, hs, os, tm⟩ := S
  unfold putK
  rw [force_eq]
  cases dst with
  | none => rfl
  | some d => simp only [setK_eq]; rfl

def snocN : List Nat → Nat → (List Nat → Prop) → Prop
  | [], n, k => k [n]
  | a :: l, n, k => snocN l n fun l => k (a :: l)
theorem snocN_eq : ∀ (l : List Nat) (n : Nat) (k : List Nat → Prop), snocN l n k = k (l ++ [n])
  | [], _, _ => rfl
  | a :: l, n, k => by simp only [snocN]; rw [snocN_eq l]; rfl
def snocH : List HB → HB → (List HB → Prop) → Prop
  | [], n, k => k [n]
  | a :: l, n, k => snocH l n fun l => k (a :: l)
theorem snocH_eq : ∀ (l : List HB) (n : HB) (k : List HB → Prop), snocH l n k = k (l ++ [n])
  | [], _, _ => rfl
  | a :: l, n, k => by simp only [snocH]; rw [snocH_eq l]; rfl
def setH : List HB → Nat → HB → (List HB → Prop) → Prop
  | [], _, _, k => k []
  | _ :: l, 0, b, k => k (b :: l)
  | b0 :: l, n + 1, b, k => setH l n b fun l => k (b0 :: l)
theorem setH_eq : ∀ (l : List HB) (n : Nat) (b : HB) (k : List HB → Prop), setH l n b k = k (l.set n b)
  | [], _, _, k => rfl
  | _ :: l, 0, _, _ => rfl
  | b0 :: l, n + 1, b, k => by simp only [setH]; rw [setH_eq l]; rfl
def setNs : List Nat → Nat → Nat → (List Nat → Prop) → Prop
  | [], _, _, k => k []
  | _ :: l, 0, b, k => k (b :: l)
  | b0 :: l, n + 1, b, k => setNs l n b fun l => k (b0 :: l)
theorem setNs_eq : ∀ (l : List Nat) (n : Nat) (b : Nat) (k : List Nat → Prop), setNs l n b k = k (l.set n b)
  | [], _, _, k => rfl
  | _ :: l, 0, _, _ => rfl
  | b0 :: l, n + 1, b, k => by simp only [setNs]; rw [setNs_eq l]; rfl

def wfS (S : St) : Bool :=
  match wfT S.ns.length S.tm with
  | true => wfH S.ns.length S.hs
  | false => false

/-- A new block, known whole. -/
def newK (S : St) (t : TypeId) (zs : List Lf) (k : Nat → St → Prop) : Prop :=
  match wfS S with
  | false => False
  | true => match wfL S.ns.length zs with
    | false => False
    | true => match S with
      | ⟨W, E, ns, hs, os, tm⟩ => forceLs zs fun zs => ∀ n : Nat, W.heap.size ≤ n → snocN ns n fun ns => snocH hs (.k t zs) fun hs => k n ⟨W, E, ns, hs, os, tm⟩

def lenNK : List Nat → Nat → (Nat → Prop) → Prop
  | [], i, k => k i
  | _ :: l, i, k => lenNK l (Nat.succ i) k
theorem lenNK_eq : ∀ (l : List Nat) (i : Nat) (k : Nat → Prop), lenNK l i k = k (i + l.length)
  | [], _, _ => rfl
  | _ :: l, i, k => by simp only [lenNK]; rw [lenNK_eq l]; congr 1; simp; omega

def storeK (T : Tr) (S : St) (t : TypeId) (x y : AV) (k : St → Prop) : Prop :=
  match x with
  | .one (.p i off) => (match T.look t with
    | none => False
    | some d => (match nthH S.hs i with
      | some (.k bt ls) => forceLs y.leaves fun ys => (match cellsB ys, Nat.beq ys.length d.size, Nat.ble (off + ys.length) ls.length with
        | true, true, true => forceLs (splice ls off ys) fun ls => (match S with
          | ⟨W, E, ns, hs, os, tm⟩ => setH hs i (.k bt ls) fun hs => k ⟨W, E, ns, hs, os, tm⟩)
        | _, _, _ => False)
      | _ => False))
  | _ => False

def bsZ (z : List Value) (n : Nat) : List Value := (List.range n).map fun i => z.getD (i % z.length) default

def buildSliceK (T : Tr) (S : St) (t : TypeId) (len : Nat) (ps : List (Nat × Operand)) (k : Value → St → Prop) : Prop :=
  match T.look t with
  | some ⟨_, _, .slice e esz⟩ => (match T.look e with
    | some ⟨_, z, _⟩ => (match Nat.ble (len * esz) 16777216 with
      | true => forceLs ((bsZ z (len * esz)).map .v) fun zs => fillK S.tm (placeA esz) ps zs fun zs => newK S e zs fun n S => k (.slice (some ⟨n, 0, none⟩) len len) S
      | false => False)
    | none => False)
  | _ => False

/-- Whether evP answers for an operation. -/
def isQ : Op → Bool
  | .move _ | .assign _ | .pick .. | .nilCheck _ | .binOp .. | .unOp .. | .convert .. | .fieldAddr .. | .field .. | .indexAddr .. | .index .. | .extract .. | .build .. | .slice .. | .makeFunc .. | .load .. => true
  | .call c => (match c.callee with
    | .builtin .len | .builtin .cap | .builtin .max | .builtin .min => true
    | _ => false)
  | _ => false

/-- Operations that are reckoned by lemmas over the model's own words. -/
def semK (C : Ctx) (m : Bool) (S : St) (o : Oper) (k : St → Prop) : Prop :=
  argsK S.ns S.tm (opsOf o.op) fun vs => match semOf o.op o.type vs with
    | some s => SemVC C m s S fun r S' => putK S' o.dst r k
    | none => OpVC C m o S k

/-- A step of an operation that isn't quiet. -/
def evN (C : Ctx) (T : Tr) (m : Bool) (S : St) (o : Oper) (k : St → Prop) : Prop :=
  match o.op with
  | .alloc t => (match T.look t with
    | some d => lenNK S.ns 0 fun i => newK S t (d.zero.map .v) fun _ S' => putK S' o.dst (.one (.p i 0)) k
    | none => False)
  | .box t x => opK S.tm x fun a => (match cellsB a.leaves with
    | true => lenNK S.ns 0 fun i => newK S t a.leaves fun _ S' => putK S' o.dst (.one (.p i 0)) k
    | false => False)
  | .buildSlice t len ps => buildSliceK T S t len ps.toList fun v S' => putK S' o.dst (.one (.v v)) k
  | .store t x y => (match m with
    | true => semK C true S o k
    | false => opK S.tm x fun a => opK S.tm y fun b => (match a with
      | .one (.p i off) => storeK T S t (.one (.p i off)) b fun S' => putK S' o.dst (.one (.v undef)) k
      | _ => semK C false S o k))
  | .call c => (match c.callee with
    | .value f => opK S.tm f fun fa => avK S.ns fa fun fv => argsK S.ns S.tm c.args.toList fun vs => CallVC C m fv vs S fun r S' => putK S' o.dst r k
    | _ => semK C m S o k)
  | _ => semK C m S o k

theorem run_v' {P : Program} {w w' : World} {s : Sem Value} {y : Value} (h : s.run P w = .ok y w') : (do pure (Next.value (← s)) : Sem Next).run P w = .ok (.value y) w' := by
  rw [run_bind h]; rfl

section
variable {C : Ctx} {T : Tr} {S : St} {o : Oper}

/-- A new block. -/
theorem Mod.newObj {w : World} (h : Mod C S w) (b : HB) (o : Obj) (hwf : wfH S.ns.length S.hs = true) (hz : b.wf S.ns.length = true) (hl : b.At S.ns o) :
    Mod C ⟨S.W, S.E, S.ns ++ [w.heap.size], S.hs ++ [b], S.os, S.tm⟩ { w with heap := w.heap.push o } := by
  have hpush : ∀ i, i < w.heap.size → (w.heap.push o)[i]? = w.heap[i]? := fun i hi => by rw [Array.getElem?_push, if_neg (by omega)]
  refine ⟨⟨h.g.os, h.g.tape, h.g.output, ?_, ?_⟩, h.le0, ?_, ?_, ?_, ?_, ?_, ?_, ?_, h.exb, h.base, ?_⟩
  · show C.W0.heap.size ≤ (w.heap.push _).size
    rw [Array.size_push]; have := h.g.size; omega
  · intro i hi hm
    show (w.heap.push _)[i]? = _
    rw [hpush i (by have := h.g.size; omega)]; exact h.g.old i hi hm
  · show S.W.heap.size ≤ (w.heap.push _).size
    rw [Array.size_push]; have := h.size; omega
  · intro i hi he hn
    show (w.heap.push _)[i]? = _
    have : i ∉ S.ns := fun hm => hn (List.mem_append_left _ hm)
    have hi : i < S.W.heap.size := hi
    rw [hpush i (by have := h.size; omega)]; exact h.old i hi he this
  · show (S.ns ++ [_]).length = (S.hs ++ [_]).length
    rw [List.length_append, List.length_append, h.len]; rfl
  · intro i b' hb
    have hb : (S.hs ++ [b])[i]? = some b' := hb
    show ∃ o', (w.heap.push _)[(S.ns ++ [w.heap.size]).getD i 0]? = _ ∧ b'.At (S.ns ++ [w.heap.size]) o'
    rcases Nat.lt_trichotomy i S.hs.length with hi | hi | hi
    · rw [List.getElem?_append_left hi] at hb
      obtain ⟨o', hc, hl'⟩ := h.blk i b' hb
      have hi' : i < S.ns.length := by rw [h.len]; exact hi
      refine ⟨o', ?_, hl'.ext _ (wfH_get hwf i b' hb)⟩
      rw [List.getD_eq_getElem?_getD, List.getElem?_append_left hi', ← List.getD_eq_getElem?_getD, hpush _ (Array.getElem?_eq_some_iff.1 hc).1]
      exact hc
    · subst hi
      rw [List.getElem?_append_right (Nat.le_refl _), Nat.sub_self] at hb
      simp only [List.getElem?_cons_zero, Option.some.injEq] at hb
      subst hb
      refine ⟨o, ?_, hl.ext _ hz⟩
      rw [List.getD_eq_getElem?_getD, ← h.len, List.getElem?_append_right (Nat.le_refl _), Nat.sub_self]
      simp
    · rw [List.getElem?_eq_none (by rw [List.length_append]; simp; omega)] at hb; cases hb
  · show (S.ns ++ [w.heap.size]).Nodup
    rw [List.nodup_append]
    refine ⟨h.nodup, by simp, fun a ha b hb => ?_⟩
    simp at hb; subst hb
    have := h.tag_lt ha; omega
  · intro n hn
    rcases List.mem_append.1 hn with hn | hn
    · exact h.sep n hn
    · simp at hn; subst hn; exact .inr h.size
  · intro n hn
    rcases List.mem_append.1 hn with hn | hn
    · exact h.own n hn
    · simp at hn; subst hn; exact .inl h.g.size
  · obtain ⟨fp, ho⟩ := h.osc
    refine ⟨fp, ho.same (fun b hb _ => hpush b hb) (by show w.heap.size ≤ (w.heap.push _).size; rw [Array.size_push]; omega) fun b hb hq => ⟨fun hm => ?_, hq.2⟩⟩
    rcases List.mem_append.1 hm with hm | hm
    · exact hq.1 hm
    · simp at hm; omega

theorem wfS_wfH {S : St} (h : wfS S = true) : wfH S.ns.length S.hs = true := by
  unfold wfS at h; split at h
  · exact h
  · cases h
theorem wfS_wfT {S : St} (h : wfS S = true) : wfT S.ns.length S.tm = true := by
  unfold wfS at h; split at h
  · assumption
  · cases h
theorem Mod.newBlk {w : World} (h : Mod C S w) (t : TypeId) (zs : List Lf) (cs : List Value) (hwf : wfS S = true) (hz : wfL S.ns.length zs = true) (hl : LR S.ns zs cs) :
    Mod C ⟨S.W, S.E, S.ns ++ [w.heap.size], S.hs ++ [.k t zs], S.os, S.tm⟩ { w with heap := w.heap.push (.cells cs.toArray t) } :=
  h.newObj (.k t zs) _ (wfS_wfH hwf) hz ⟨cs, rfl, hl⟩

theorem newK_sound {t : TypeId} {zs : List Lf} {k : Nat → St → Prop} (h : newK S t zs k) {a : Act} {w : World} (hs : Sim S a) (hm : Mod C S w) {cs : List Value} (hl : LR S.ns zs cs) :
    ∃ S', S'.ns = S.ns ++ [w.heap.size] ∧ k w.heap.size S' ∧ Sim S' a ∧ Mod C S' { w with heap := w.heap.push (.cells cs.toArray t) } := by
  unfold newK at h
  split at h
  · cases h
  · rename_i hwf
    split at h
    · cases h
    · rename_i hz
      obtain ⟨W, E, ns, hs', os, tm⟩ := S
      simp only [forceLs_eq, snocN_eq, snocH_eq] at h
      have h1 := h w.heap.size hm.size
      refine ⟨_, rfl, h1, ⟨hs.d, ?_⟩, hm.newBlk t zs cs hwf hz hl⟩
      refine TR.ext _ ?_ hs.t
      unfold wfS at hwf; split at hwf
      · assumption
      · cases hwf

theorem below_push (w : World) (o : Obj) : Below w.heap.size w { w with heap := w.heap.push o } := (Below.refl w.heap.size w).alloc (Nat.le_refl _) o

theorem putK_sim {S : St} {dst : Option Tmp} {r : AV} {k : St → Prop} (h : putK S dst r k) {a : Act} {w : World} {y : Value} (hs : Sim S a) (hm : Mod C S w) (hr : r.R S.ns y) :
    ∃ S', k S' ∧ Sim S' (a.put dst y) ∧ Mod C S' w := by
  rw [putK_eq] at h
  exact ⟨_, h, hs.put hr, hm.put _ _⟩

theorem getD_last (ns : List Nat) (n : Nat) : (ns ++ [n]).getD ns.length 0 = n := by
  rw [List.getD_eq_getElem?_getD, List.getElem?_append_right (Nat.le_refl _), Nat.sub_self]; rfl

theorem stepB_of_run {m : Bool} {k : St → Prop}
    (h : ∀ a w, Sim S a → Mod C S w → ∃ y w', ((execOp a.eval o).run C.P w = .ok (.value y) w' ∨ ((execOp a.eval o).run C.P w = .ok .skip w' ∧ y = undef)) ∧
      (m = true → Below w.heap.size w w') ∧ ∃ S', k S' ∧ Sim S' (a.put o.dst y) ∧ Mod C S' w') : StepB C m o S k := by
  intro a w hs hm Q
  obtain ⟨y, w', hr, hb, S', hk, hs', hm'⟩ := h a w hs hm
  unfold Oper.wp
  rcases hr with hr | ⟨hr, rfl⟩
  · rw [hr, Oper.upon_value]; exact ⟨hb, S', hk, hs', hm'⟩
  · rw [hr, Oper.upon_skip]; exact ⟨hb, S', hk, hs', hm'⟩

theorem run_newVar {P : Program} {w : World} (t : TypeId) (v : Value) : (newVar t v).run P w = .ok ⟨w.heap.size, 0, none⟩ { w with heap := w.heap.push (.cells v.cells t) } := rfl

theorem nodup_set {n' : Nat} : ∀ {l : List Nat} {i : Nat}, l.Nodup → (∀ (r x : Nat), l[r]? = some x → r ≠ i → x ≠ n') → (l.set i n').Nodup
  | [], _, _, _ => by simp
  | a :: l, 0, h, hk => by
    rw [List.set_cons_zero, List.nodup_cons]
    refine ⟨fun hm => ?_, (List.nodup_cons.1 h).2⟩
    obtain ⟨t, ht, e⟩ := List.getElem_of_mem hm
    exact hk (t + 1) n' (by simp [List.getElem?_eq_getElem ht, e]) (by omega) rfl
  | a :: l, i + 1, h, hk => by
    rw [List.set_cons_succ, List.nodup_cons]
    refine ⟨fun hm => ?_, nodup_set (List.nodup_cons.1 h).2 fun r x hx hri => hk (r + 1) x (by simpa using hx) (by omega)⟩
    rcases List.mem_or_eq_of_mem_set hm with hm | rfl
    · exact (List.nodup_cons.1 h).1 hm
    · exact hk 0 _ rfl (by omega) rfl
/-- Writing a block that is owned: it may be another one then. -/
theorem Mod.setObj {w : World} (h : Mod C S w) {i n n' : Nat} {b' : HB} {o' : Obj} (hi : S.ns[i]? = some n) (hn' : n' = n ∨ w.heap.size ≤ n') {w' : World} (hAt : b'.At (S.ns.set i n') o') (hoth : ∀ j b o, j ≠ i → S.hs[j]? = some b → b.At S.ns o → b.At (S.ns.set i n') o)
    (hcell : w'.heap[n']? = some o') (hother : ∀ b, b < w.heap.size → b ≠ n → w'.heap[b]? = w.heap[b]?) (hsize : w.heap.size ≤ w'.heap.size)
    (hos : w'.os = w.os) (htape : w'.tape = w.tape) (hout : w'.output = w.output) : Mod C ⟨S.W, S.E, S.ns.set i n', S.hs.set i b', S.os, S.tm⟩ w' := by
  have hil : i < S.ns.length := (List.getElem?_eq_some_iff.1 hi).1
  have hmem : n ∈ S.ns := List.mem_of_getElem? hi
  have hmem' : ∀ x, x ∈ S.ns.set i n' → x ∈ S.ns ∨ x = n' := fun x hx => List.mem_or_eq_of_mem_set hx
  have hnlt : n < w.heap.size := h.tag_lt hmem
  refine ⟨⟨hos.trans h.g.os, htape.trans h.g.tape, hout.trans h.g.output, Nat.le_trans h.g.size hsize, fun j hj hm => ?_⟩, h.le0, Nat.le_trans h.size hsize, ?_, ?_, ?_, ?_, ?_, ?_, h.exb, h.base, ?_⟩
  · rw [hother j (Nat.lt_of_lt_of_le hj h.g.size)]
    · exact h.g.old j hj hm
    · rintro rfl
      rcases h.own _ hmem with h1 | h1
      · omega
      · exact hm h1
  · intro j hj he hn
    have hn : j ∉ S.ns.set i n' := hn
    have hj : j < S.W.heap.size := hj
    have he : ¬ S.E j := he
    have hjn : j ≠ n := by
      rintro rfl
      rcases h.sep _ hmem with h1 | h1
      · exact he h1
      · omega
    have hjs : j ∉ S.ns := by
      intro hjm
      rcases h.sep _ hjm with h1 | h1
      · exact he h1
      · omega
    rw [hother j (Nat.lt_of_lt_of_le hj h.size) hjn]; exact h.old j hj he hjs
  · show (S.ns.set i n').length = (S.hs.set i b').length
    rw [List.length_set, List.length_set]; exact h.len
  · intro j b hj
    show ∃ o, w'.heap[(S.ns.set i n').getD j 0]? = some o ∧ b.At (S.ns.set i n') o
    replace hj : (S.hs.set i b')[j]? = some b := hj
    rw [List.getElem?_set] at hj
    split at hj
    · rename_i e; subst e
      split at hj
      · simp only [Option.some.injEq] at hj; subst hj
        refine ⟨o', ?_, hAt⟩
        rw [List.getD_eq_getElem?_getD, List.getElem?_set, if_pos rfl, if_pos hil]; exact hcell
      · cases hj
    · rename_i hne
      obtain ⟨o, hc, hl⟩ := h.blk j b hj
      refine ⟨o, ?_, hoth j b o (fun e => hne e.symm) hj hl⟩
      rw [List.getD_eq_getElem?_getD, List.getElem?_set, if_neg hne, ← List.getD_eq_getElem?_getD]
      rw [hother _ (Array.getElem?_eq_some_iff.1 hc).1]
      · exact hc
      · intro e
        have hjl : j < S.ns.length := by rw [h.len]; exact (List.getElem?_eq_some_iff.1 hj).1
        rw [List.getD_eq_getElem?_getD, List.getElem?_eq_getElem hjl, Option.getD_some, ← (List.getElem?_eq_some_iff.1 hi).2] at e
        exact hne ((List.getElem_inj h.nodup).1 e).symm
  · show (S.ns.set i n').Nodup
    refine nodup_set h.nodup fun r x hx hri e => ?_
    subst e
    rcases hn' with rfl | hge
    · exact hri ((List.getElem_inj h.nodup).1 ((List.getElem?_eq_some_iff.1 hx).2.trans (List.getElem?_eq_some_iff.1 hi).2.symm))
    · have := h.tag_lt (List.mem_of_getElem? hx); omega
  · intro x hx
    rcases hmem' x hx with hx | rfl
    · exact h.sep x hx
    · rcases hn' with rfl | hge
      · exact h.sep _ hmem
      · exact .inr (Nat.le_trans h.size hge)
  · intro x hx
    rcases hmem' x hx with hx | rfl
    · exact h.own x hx
    · rcases hn' with rfl | hge
      · exact h.own _ hmem
      · exact .inl (Nat.le_trans h.g.size hge)
  · obtain ⟨fp, ho⟩ := h.osc
    refine ⟨fp, ho.same (fun b hb hq => hother b hb fun e => hq.1 (e ▸ hmem)) hsize fun b hb hq => ⟨fun hm => ?_, hq.2⟩⟩
    rcases hmem' b hm with hm | rfl
    · exact hq.1 hm
    · rcases hn' with rfl | hge
      · exact hq.1 hmem
      · omega

theorem set_self {ns : List Nat} {i n : Nat} (h : ns[i]? = some n) : ns.set i n = ns := by
  apply List.ext_getElem?
  intro j
  rw [List.getElem?_set]
  split
  · rename_i e; subst e
    split
    · exact h.symm
    · rename_i hl; exact absurd (List.getElem?_eq_some_iff.1 h).1 hl
  · rfl

theorem Mod.store {w : World} (h : Mod C S w) {i : Nat} {bt : TypeId} {ls : List Lf} (hb : S.hs[i]? = some (.k bt ls)) {ms : List Lf} {ds : List Value} (hl : LR S.ns ms ds) {w' : World}
    (hcell : w'.heap[S.ns.getD i 0]? = some (.cells ds.toArray bt (0, 0))) (hother : ∀ b, b ≠ S.ns.getD i 0 → w'.heap[b]? = w.heap[b]?) (hsize : w'.heap.size = w.heap.size)
    (hos : w'.os = w.os) (htape : w'.tape = w.tape) (hout : w'.output = w.output) : Mod C ⟨S.W, S.E, S.ns, S.hs.set i (.k bt ms), S.os, S.tm⟩ w' := by
  have hil : i < S.ns.length := by rw [h.len]; exact (List.getElem?_eq_some_iff.1 hb).1
  have hi : S.ns[i]? = some (S.ns.getD i 0) := by rw [List.getD_eq_getElem?_getD, List.getElem?_eq_getElem hil]; rfl
  have := h.setObj (b' := .k bt ms) (o' := .cells ds.toArray bt (0, 0)) hi (.inl rfl) (w' := w') (by rw [set_self hi]; exact ⟨ds, rfl, hl⟩) (fun _ _ _ _ _ h => by rw [set_self hi]; exact h) hcell (fun b _ hne => hother b hne) (by omega) hos htape hout
  rwa [set_self hi] at this

/-- Storing cells one by one. -/
theorem run_storeCells {P : Program} (b : Nat) (t : TypeId) (off : Nat) : ∀ (ds : List Value) (j : Nat) (cs : List Value) (w : World), (∀ c ∈ ds, c.oneCell = true) →
    w.heap[b]? = some (.cells cs.toArray t (0, 0)) → off + j + ds.length ≤ cs.length →
    ∃ w', (storeCells ⟨b, off, none⟩ ds j).run P w = .ok () w' ∧ w'.heap[b]? = some (.cells (cs.take (off + j) ++ (ds ++ cs.drop (off + j + ds.length))).toArray t (0, 0)) ∧
      (∀ i, i ≠ b → w'.heap[i]? = w.heap[i]?) ∧ w'.heap.size = w.heap.size ∧ w'.os = w.os ∧ w'.tape = w.tape ∧ w'.output = w.output
  | [], j, cs, w, _, hc, _ => ⟨w, rfl, by simpa using hc, fun _ _ => rfl, rfl, rfl, rfl, rfl⟩
  | d :: ds, j, cs, w, h1, hc, hle => by
    simp only [List.length_cons] at hle
    have hcell : w.cell? ⟨b, off + j, none⟩ = some (cs[off + j]'(by omega)) := by
      unfold World.cell?; simp only [hc]; simp [show off + j < cs.length by omega]
    have hfr : w.frozen? ⟨b, off + j, none⟩ = false := by unfold World.frozen?; simp only [hc]; simp
    have hd := h1 d (by simp)
    have hst : (store ((⟨b, off, none⟩ : Addr).add j) d).run P w = .ok () (w.setCell ⟨b, off + j, none⟩ d) := by
      rw [add_zero_off]
      unfold store
      cases d <;> first
        | (simp [Value.oneCell] at hd; done)
        | (simp only [Sem.run, hcell, hfr]; rfl)
    have hc1 : (w.setCell ⟨b, off + j, none⟩ d).heap[b]? = some (.cells (cs.set (off + j) d).toArray t (0, 0)) := by
      simp only [World.setCell, Array.getElem?_modify, if_true, hc, Option.map_some]
      simp
    obtain ⟨w', hr, hb, ho, hs, h5, h6, h7⟩ := run_storeCells b t off ds (j + 1) (cs.set (off + j) d) (w.setCell ⟨b, off + j, none⟩ d) (fun c hc => h1 c (by simp [hc])) hc1 (by simp; omega)
    refine ⟨w', ?_, ?_, fun i hi => (ho i hi).trans (Below.heap_setCell _ _ _ _ hi), hs.trans (by simp [World.setCell]), h5, h6, h7⟩
    · unfold storeCells; rw [run_bind hst]; exact hr
    · rw [hb]
      congr 3
      have hlt : off + j < cs.length := by omega
      rw [show off + (j + 1) = off + j + 1 by omega, List.take_set, List.drop_set, if_pos (by omega), List.take_succ_eq_append_getElem hlt, List.set_append, if_neg (by rw [List.length_take]; omega)]
      have : off + j - (List.take (off + j) cs).length = 0 := by rw [List.length_take]; omega
      rw [this]
      simp only [List.set_cons_zero, List.append_assoc, List.cons_append, List.nil_append, List.length_cons]
      rw [show off + j + 1 + ds.length = off + j + (ds.length + 1) by omega]


theorem storeK_sound {t : TypeId} {x y : AV} {k : St → Prop} (hT : T.OK C.P) (h : storeK T S t x y k) {a : Act} {w : World} (hs : Sim S a) (hm : Mod C S w) {vx vy : Value} (hx : x.R S.ns vx) (hy : y.R S.ns vy) :
    ∃ S' w', S'.ns = S.ns ∧ k S' ∧ Sim S' a ∧ Mod C S' w' ∧ (Instr.storeAt t vx vy).run C.P w = .ok () w' := by
  unfold storeK at h
  split at h
  · rename_i i off
    split at h
    · cases h
    · rename_i d hl
      obtain ⟨ti, u, z, hi, hu, hsz, _, _, _⟩ := tdOf_info (Tr.look_ok hT hl)
      split at h
      · rename_i bt ls hb
        rw [nthH_eq] at hb
        rw [forceLs_eq] at h
        split at h
        · rename_i h1 h2 h3
          rw [forceLs_eq] at h
          obtain ⟨W, E, ns, hs', os, tm⟩ := S
          simp only [setH_eq] at h
          obtain ⟨_, hc, cs, rfl, hlr⟩ := hm.blk i _ hb
          have hleaf : LR ns y.leaves vy.cells.toList := AV.leaves_R h1 hy
          have hlen : vy.cells.toList.length = d.size := by rw [← hleaf.length]; exact Nat.eq_of_beq_eq_true h2
          obtain ⟨w', hr, hb', ho, hsize, h5, h6, h7⟩ := run_storeCells (P := C.P) (ns.getD i 0) bt off vy.cells.toList 0 cs w (cellsB_one h1 hleaf) hc
            (by have := Nat.le_of_ble_eq_true h3; rw [← hlr.length, ← hleaf.length]; omega)
          refine ⟨⟨W, E, ns, hs'.set i (.k bt (splice ls off y.leaves)), os, tm⟩, w', rfl, h, ⟨hs.d, hs.t⟩, hm.store hb (hlr.splice off hleaf) (by simpa using hb') ho hsize h5 h6 h7, ?_⟩
          obtain rfl := R_p hx rfl
          unfold Instr.storeAt
          rw [run_bind (show (Instr.sureAddr (.pointer (some ⟨ns.getD i 0, off, none⟩))).run C.P w = .ok _ w from rfl)]
          unfold storeVar
          rw [run_bind (run_sizeOf hi), hsz]
          rw [if_neg (by rw [← Array.length_toList, hlen]; simp)]
          exact hr
        · cases h
      · cases h
  · cases h

theorem callVC_sound {m : Bool} {f : Operand} {args : Array Operand} {ats : Array TypeId} {fv : Value} {vs : List Value} {k : St → Prop} (ho : o.op = .call { callee := .value f, args, argTypes := ats })
    (hf : ∀ a, Sim S a → a.eval f = fv) (hvs : ∀ a, Sim S a → args.toList.map a.eval = vs) (h : CallVC C m fv vs S fun r S' => putK S' o.dst r k) : StepB C m o S k := by
  intro a w hs hm Q
  unfold Oper.wp
  have he : execOp a.eval o = (do let d ← Deferred.ofValue fv vs.toArray; invoke d.target d.args) := by
    rw [execOp, ho]; simp only [resolve]
    rw [hf a hs]
    have : args.map a.eval = vs.toArray := by apply Array.ext'; rw [Array.toList_map, hvs a hs]
    rw [this]
  rw [he]
  have h1 := h.go w hm
  unfold CtV UponV at h1
  have fin : ∀ v w', ((m = true → Below w.heap.size w w') ∧ ∃ S' r, (∀ a, Sim S a → Sim S' a) ∧ Mod C S' w' ∧ AV.R S'.ns r v ∧ putK S' o.dst r k) →
      (m = true → Below w.heap.size w w') ∧ ∃ S', k S' ∧ Sim S' (a.put o.dst v) ∧ Mod C S' w' := by
    rintro v w' ⟨hb, S', r, h1, h2, h3, h4⟩
    exact ⟨hb, putK_sim h4 (h1 a hs) h2 h3⟩
  split at h1
  · rename_i v w' he'
    rw [he']; exact fin v w' h1
  · rename_i f' args' w' he'
    rw [he']
    rw [Oper.upon_enter]
    refine Calls.mono h1 ?_
    rintro e w'' ⟨v, rfl, h2⟩
    exact fin v w'' h2
  · cases h1

/-- What is reckoned for an operation that is not quiet is what it does. -/
theorem semOf_run {P : Program} {a : Act} {w w' : World} {s : Sem Value} {y : Value} (h : semOf o.op o.type ((opsOf o.op).map a.eval) = some s) (hr : s.run P w = .ok y w') :
    (execOp a.eval o).run P w = .ok (.value y) w' ∨ ((execOp a.eval o).run P w = .ok .skip w' ∧ y = undef) := by
  have hu : ∀ (t : Sem Unit), (do t; pure undef : Sem Value).run P w = .ok y w' → (do t; pure Next.skip : Sem Next).run P w = .ok .skip w' ∧ y = undef := by
    intro t ht
    rw [Sem.run_bind] at ht ⊢
    cases hx : t.run P w with
    | ok u w1 =>
      rw [hx] at ht
      have ht : Result.ok undef w1 = .ok y w' := ht
      injection ht with e1 e2
      subst e2
      exact ⟨rfl, e1.symm⟩
    | halt e w1 => rw [hx] at ht; cases ht
  cases ho : o.op with
  | makeSlice t l c =>
    rw [ho] at h; simp only [opsOf, semOf, List.map_cons, List.map_nil, Option.some.injEq] at h; subst h
    left; rw [execOp, ho]; exact run_v' hr
  | makeMap t r =>
    rw [ho] at h
    cases r with
    | none => simp only [opsOf, semOf, List.map_cons, List.map_nil, Option.some.injEq] at h; subst h; left; rw [execOp, ho]; exact run_v' hr
    | some r => simp only [opsOf, semOf, List.map_cons, List.map_nil, Option.some.injEq] at h; subst h; left; rw [execOp, ho]; exact run_v' hr
  | lookup t x i b =>
    rw [ho] at h; simp only [opsOf, semOf, List.map_cons, List.map_nil, Option.some.injEq] at h; subst h
    left; rw [execOp, ho]; exact run_v' hr
  | mapEntry t x i =>
    rw [ho] at h; simp only [opsOf, semOf, List.map_cons, List.map_nil, Option.some.injEq] at h; subst h
    left; rw [execOp, ho]; exact run_v' hr
  | range t x =>
    rw [ho] at h; simp only [opsOf, semOf, List.map_cons, List.map_nil, Option.some.injEq] at h; subst h
    left; rw [execOp, ho]; exact run_v' hr
  | next x b =>
    rw [ho] at h; simp only [opsOf, semOf, List.map_cons, List.map_nil, Option.some.injEq] at h; subst h
    left; rw [execOp, ho]; exact run_v' hr
  | entry x =>
    rw [ho] at h; simp only [opsOf, semOf, List.map_cons, List.map_nil, Option.some.injEq] at h; subst h
    left; rw [execOp, ho]; exact run_v' hr
  | mapUpdate t m k x =>
    rw [ho] at h; simp only [opsOf, semOf, List.map_cons, List.map_nil, Option.some.injEq] at h; subst h
    right; rw [execOp, ho]; exact hu _ hr
  | insert t m k x =>
    rw [ho] at h; simp only [opsOf, semOf, List.map_cons, List.map_nil, Option.some.injEq] at h; subst h
    right; rw [execOp, ho]; exact hu _ hr
  | entryStore t m k x =>
    rw [ho] at h; simp only [opsOf, semOf, List.map_cons, List.map_nil, Option.some.injEq] at h; subst h
    right; rw [execOp, ho]; exact hu _ hr
  | store t m k =>
    rw [ho] at h; simp only [opsOf, semOf, List.map_cons, List.map_nil, Option.some.injEq] at h; subst h
    right; rw [execOp, ho]; exact hu _ hr
  | call c =>
    obtain ⟨callee, args, ats⟩ := c
    rw [ho] at h
    have hmap : (args.toList.map a.eval).toArray = args.map a.eval := by apply Array.ext'; simp
    have fin : ∀ (b : Builtin) (s' : Array Value → Sem Value), callee = .builtin b → (∀ cs vs, builtin b ats o.type cs vs = (do pure (.value (← s' vs)))) → s = s' (args.map a.eval) → (execOp a.eval o).run P w = .ok (.value y) w' := by
      intro b s' hc hb hs
      subst hc; subst hs
      rw [execOp, ho]; simp only
      show ((resolve a.eval _ _) >>= fun d => invoke d.target d.args).run P w = _
      rw [run_bind (show (resolve a.eval { callee := .builtin b, args, argTypes := ats } o.type).run P w = .ok _ w from rfl)]
      simp only [invoke]
      rw [hb]
      exact run_v' hr
    left
    simp only [semOf, opsOf] at h
    split at h
    · cases h; exact fin .append _ rfl (fun _ _ => rfl) (by rw [← hmap])
    · cases h; exact fin .copy _ rfl (fun _ _ => rfl) (by rw [← hmap])
    · cases h; exact fin .delete _ rfl (fun _ _ => rfl) (by rw [← hmap])
    · cases h; exact fin .clear _ rfl (fun _ _ => rfl) (by rw [← hmap])
    · cases h; exact fin .len _ rfl (fun _ _ => rfl) (by rw [← hmap])
    · cases h
  | _ => rw [ho] at h; simp [semOf, opsOf] at h

theorem semK_sound {m : Bool} {k : St → Prop} (h : semK C m S o k) : StepB C m o S k := by
  unfold semK at h
  obtain ⟨vs, h, hvs⟩ := argsK_sound h
  split at h
  · rename_i s hs
    refine stepB_of_run fun a w hsim hm => ?_
    obtain ⟨y, w', hr, hb, S', r, hsim', hm', hR, hk⟩ := h.go w hm
    have he : semOf o.op o.type ((opsOf o.op).map a.eval) = some s := by rw [hvs a hsim]; exact hs
    exact ⟨y, w', semOf_run he hr, hb, putK_sim hk (hsim' a hsim) hm' hR⟩
  · exact h.go

theorem evN_sound {m : Bool} {k : St → Prop} (hT : T.OK C.P) (h : evN C T m S o k) : StepB C m o S k := by
  generalize ho : o.op = op
  unfold evN at h
  rw [ho] at h
  split at h
  · rename_i t
    split at h
    · rename_i d hl
      obtain ⟨ti, u, z, hi, hu, hsz, hz, hzl, _⟩ := tdOf_info (Tr.look_ok hT hl)
      rw [lenNK_eq, Nat.zero_add] at h
      refine stepB_of_run fun a w hs hm => ?_
      obtain ⟨S', hns, hk, hs', hm'⟩ := newK_sound (cs := d.zero) h hs hm (LR.of_v _)
      refine ⟨.pointer (some ⟨w.heap.size, 0, none⟩), { w with heap := w.heap.push (.cells d.zero.toArray t) }, .inl ?_, fun _ => below_push _ _, ?_⟩
      · rw [execOp, ho]; simp only
        refine run_v' ?_
        unfold Instr.alloc
        rw [run_bind (run_zero hi hz)]
        simp only
        rw [run_bind (run_newVar t z), show z.cells = d.zero.toArray by apply Array.ext'; rw [hzl]]; rfl
      · refine putK_sim hk hs' hm' ?_
        show _ = _
        rw [hns, getD_last]
    · cases h
  · rename_i t x
    rw [opK_eq] at h
    split at h
    · rename_i hc
      rw [lenNK_eq, Nat.zero_add] at h
      refine stepB_of_run fun a w hs hm => ?_
      have hleaf : LR S.ns (opA S.tm x).leaves (a.eval x).cells.toList := AV.leaves_R hc (opA_R hs x)
      obtain ⟨S', hns, hk, hs', hm'⟩ := newK_sound h hs hm hleaf
      refine ⟨.pointer (some ⟨w.heap.size, 0, none⟩), { w with heap := w.heap.push (.cells (a.eval x).cells.toList.toArray t) }, .inl ?_, fun _ => below_push _ _, ?_⟩
      · rw [execOp, ho]; simp only
        refine run_v' ?_
        unfold Instr.box
        rw [run_bind (run_newVar t _)]; rfl
      · refine putK_sim hk hs' hm' ?_
        show _ = _
        rw [hns, getD_last]
    · cases h
  · rename_i t len ps
    unfold buildSliceK at h
    split at h
    · rename_i sz0 z0 e esz hl
      obtain ⟨ti, u, z, hi, hu, _, _, _, hk⟩ := tdOf_info (Tr.look_ok hT hl)
      obtain ⟨rfl, b, hb⟩ := tk_slice hk
      obtain ⟨ie, ue, hie, hue, hse, _⟩ := szB_info hb
      split at h
      · rename_i sz1 z1 k1 hl1
        obtain ⟨ti1, u1, zz, hi1, hu1, hsz1, hz1, hzl1, hk1⟩ := tdOf_info (Tr.look_ok hT hl1)
        split at h
        · rename_i hle
          rw [forceLs_eq] at h
          obtain ⟨ms, h, hall⟩ := fillK_sound (S := S) h
          refine stepB_of_run fun a w hs hm => ?_
          obtain ⟨ds, hd, hf⟩ := hall a hs (bsZ z1 (len * esz)) (LR.of_v _)
          obtain ⟨S', hns, hk', hs', hm'⟩ := newK_sound h hs hm hd
          refine ⟨.slice (some ⟨w.heap.size, 0, none⟩) len len, { w with heap := w.heap.push (.cells ds.toArray e) }, .inl ?_, fun _ => below_push _ _, putK_sim hk' hs' hm' rfl⟩
          rw [execOp, ho]; simp only
          refine run_v' ?_
          unfold Instr.buildSlice
          rw [run_bind (run_underlying hu)]
          simp only
          rw [run_bind (run_sizeOf hie), hse]
          rw [if_neg (by have := Nat.le_of_ble_eq_true hle; omega)]
          simp only [pure_bind]
          have hps : (ps.map fun (i, x) => (i, a.eval x)).toList = ps.toList.map fun x => (x.1, a.eval x.2) := by simp
          have hpl : (fun i => some (i * esz, esz)) = placeA esz := rfl
          by_cases h0 : len * esz = 0
          · have hcell : ((Array.range (len * esz)).map fun i => (#[] : Array Value)[i % (#[] : Array Value).size]!) = (bsZ z1 (len * esz)).toArray := by apply Array.ext'; rw [h0]; simp [bsZ]
            rw [if_pos h0, hps, hcell, hpl, hf]; rfl
          · have hcell : ((Array.range (len * esz)).map fun i => zz.cells[i % zz.cells.size]!) = (bsZ z1 (len * esz)).toArray := by
              apply Array.ext'
              rw [Array.toList_map]
              unfold bsZ
              rw [Array.toList_range]
              apply List.map_congr_left
              intro i _
              have hzl2 : z1 = zz.cells.toList := hzl1.symm
              rw [getElem!_def, hzl2, List.getD_eq_getElem?_getD, Array.getElem?_toList, Array.length_toList]
              cases zz.cells[i % zz.cells.size]? <;> rfl
            rw [if_neg h0, run_bind (run_zero hi1 hz1), hps, hcell, hpl, hf]; rfl
        · cases h
      · cases h
    · cases h
  · rename_i t x y
    split at h
    · exact semK_sound h
    · simp only [opK_eq] at h
      split at h
      · rename_i i off e
        refine stepB_of_run fun a w hs hm => ?_
        have hx := opA_R hs x
        rw [e] at hx
        obtain ⟨S', w', hns, hk, hs', hm', hr⟩ := storeK_sound hT h hs hm hx (opA_R hs y)
        refine ⟨undef, w', .inr ⟨?_, rfl⟩, nofun, putK_sim hk hs' hm' rfl⟩
        rw [execOp, ho]; simp only
        exact run_u hr
      · exact semK_sound h
  · rename_i c
    obtain ⟨callee, args, ats⟩ := c
    simp only at h
    split at h
    · rename_i f
      rw [opK_eq] at h
      obtain ⟨fv, h, hf⟩ := avK_sound h
      obtain ⟨vs, h, hvs⟩ := argsK_sound h
      exact callVC_sound ho (fun a hs => hf _ (opA_R hs f)) hvs h
    · exact semK_sound h
  · exact semK_sound h

end
end Go.Ev
