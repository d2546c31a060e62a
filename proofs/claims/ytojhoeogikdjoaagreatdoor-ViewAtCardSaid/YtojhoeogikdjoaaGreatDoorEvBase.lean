/- A symbolic walk over the model's code: states with tracked blocks, one step of an operation, and what a piece of code comes to; conditions: none, over any program. -/
import Derived.Orders
import Derived.Tactics
import Derived.Below
import Derived.Wp
set_option linter.unusedVariables false
set_option linter.unusedSimpArgs false
namespace Go.Ev
open Go.RowKit

/-- A cell or a slot as the walk knows it. -/
inductive Lf where
  | v (x : Value)
  | tt
  | ff
  | p (t o : Nat)
  | any

/-- A slot: one cell's value, a struct's or an array's cells, several results (each: is it a struct's, its cells). -/
inductive AV where
  | one (l : Lf)
  | s (l : List Lf)
  | u (l : List (Bool × List Lf))

def Lf.R (ns : List Nat) : Lf → Value → Prop
  | .v x, y => y = x
  | .tt, y => y = .bool true
  | .ff, y => y = .bool false
  | .p t o, y => y = .pointer (some ⟨ns.getD t 0, o, none⟩)
  | .any, _ => True

def LR (ns : List Nat) : List Lf → List Value → Prop
  | [], [] => True
  | l :: ls, c :: cs => l.R ns c ∧ LR ns ls cs
  | _, _ => False

def UR1 (ns : List Nat) : Bool × List Lf → Value → Prop
  | (true, ls), y => ∃ cs : List Value, y = .agg cs.toArray ∧ LR ns ls cs
  | (false, [l]), y => l.R ns y
  | (false, _), _ => False
def UR (ns : List Nat) : List (Bool × List Lf) → List Value → Prop
  | [], [] => True
  | e :: es, v :: vs => UR1 ns e v ∧ UR ns es vs
  | _, _ => False

def AV.R (ns : List Nat) : AV → Value → Prop
  | .one l, y => l.R ns y
  | .s ls, y => ∃ cs : List Value, y = .agg cs.toArray ∧ LR ns ls cs
  | .u es, y => ∃ vs : List Value, y = .tuple vs.toArray ∧ UR ns es vs

def TR (ns : List Nat) : List AV → List Value → Prop
  | [], [] => True
  | l :: ls, c :: cs => l.R ns c ∧ TR ns ls cs
  | _, _ => False

/-- A block that the walk owns: its cells leaf by leaf, or the object whole. -/
inductive HB where
  | k (t : TypeId) (ls : List Lf)
  | o (obj : Obj)
def HB.At (ns : List Nat) : HB → Obj → Prop
  | .k t ls, ob => ∃ cs : List Value, ob = .cells cs.toArray t (0, 0) ∧ LR ns ls cs
  | .o obj, ob => ob = obj

/-- Something that is owned: what is said of some blocks, and of these alone. -/
structure OP where
  φ : (Nat → Prop) → World → Prop
  loc : ∀ F w w', φ F w → (∀ b, F b → w'.heap[b]? = w.heap[b]?) → φ F w'

/-- `W`: the world at the last snapshot; `E`: blocks that are no data; `ns`, `hs`: the single blocks that the walk owns and what they hold; `os`: what else it owns; `tm`: slots. -/
structure St where
  W : World
  E : Nat → Prop
  ns : List Nat
  hs : List HB
  os : List OP
  tm : List AV

/-- `M`: old blocks that may be written; `X`: old blocks that are no data. -/
structure Ctx where
  P : Program
  W0 : World
  M : Nat → Prop
  X : Nat → Prop

/-- Old memory but for `M` is as it was. -/
structure Gl (W0 : World) (M : Nat → Prop) (w : World) : Prop where
  os : w.os = W0.os
  tape : w.tape = W0.tape
  output : w.output = W0.output
  size : W0.heap.size ≤ w.heap.size
  old : ∀ i, i < W0.heap.size → ¬ M i → w.heap[i]? = W0.heap[i]?

/-- What is owned, each in blocks of its own. -/
def Osc (os : List OP) (fp : Nat → Nat → Prop) (w : World) (Q : Nat → Prop) : Prop :=
  ∀ i o, os[i]? = some o → o.φ (fp i) w ∧ ∀ b, fp i b → b < w.heap.size ∧ Q b ∧ ∀ j, j ≠ i → j < os.length → ¬ fp j b

structure Mod (C : Ctx) (S : St) (w : World) : Prop where
  g : Gl C.W0 C.M w
  le0 : C.W0.heap.size ≤ S.W.heap.size
  size : S.W.heap.size ≤ w.heap.size
  old : ∀ i, i < S.W.heap.size → ¬ S.E i → i ∉ S.ns → w.heap[i]? = S.W.heap[i]?
  len : S.ns.length = S.hs.length
  blk : ∀ t b, S.hs[t]? = some b → ∃ o, w.heap[S.ns.getD t 0]? = some o ∧ b.At S.ns o
  nodup : S.ns.Nodup
  sep : ∀ n, n ∈ S.ns → S.E n ∨ S.W.heap.size ≤ n
  own : ∀ n, n ∈ S.ns → C.W0.heap.size ≤ n ∨ C.M n
  exb : ∀ b, S.E b → b < S.W.heap.size
  base : ∀ b, b < C.W0.heap.size → C.X b → S.E b
  osc : ∃ fp, Osc S.os fp w fun b => b ∉ S.ns ∧ (S.E b ∨ S.W.heap.size ≤ b) ∧ (C.W0.heap.size ≤ b ∨ C.M b)

theorem Osc.same {os : List OP} {fp : Nat → Nat → Prop} {w w' : World} {Q Q' : Nat → Prop} (h : Osc os fp w Q) (hb : ∀ b, b < w.heap.size → Q b → w'.heap[b]? = w.heap[b]?) (hs : w.heap.size ≤ w'.heap.size) (hq : ∀ b, b < w.heap.size → Q b → Q' b) : Osc os fp w' Q' :=
  fun i o ho => by
    obtain ⟨h1, h2⟩ := h i o ho
    exact ⟨o.loc _ _ _ h1 fun b hF => hb b (h2 b hF).1 (h2 b hF).2.1, fun b hF => ⟨Nat.lt_of_lt_of_le (h2 b hF).1 hs, hq b (h2 b hF).1 (h2 b hF).2.1, (h2 b hF).2.2⟩⟩

structure Sim (S : St) (a : Act) : Prop where
  d : a.defers = []
  t : TR S.ns S.tm a.tmps.toList

/-! ### plain lemmas -/
theorem LR.length {ns : List Nat} : ∀ {ls : List Lf} {cs : List Value}, LR ns ls cs → ls.length = cs.length
  | [], [], _ => rfl
  | _ :: _, _ :: _, h => by simp [LR.length h.2]
  | [], _ :: _, h => h.elim
  | _ :: _, [], h => h.elim

theorem LR.get {ns : List Nat} : ∀ {ls : List Lf} {cs : List Value}, LR ns ls cs → ∀ (i : Nat) (l : Lf), ls[i]? = some l → ∃ c, cs[i]? = some c ∧ l.R ns c
  | [], [], _, _, _, h => by simp at h
  | l :: ls, c :: cs, h, 0, l', e => by simp at e; subst e; exact ⟨c, by simp, h.1⟩
  | l :: ls, c :: cs, h, i + 1, l', e => by simpa using LR.get h.2 i l' (by simpa using e)
  | [], _ :: _, h, _, _, _ => h.elim
  | _ :: _, [], h, _, _, _ => h.elim

theorem LR.append {ns : List Nat} : ∀ {ls ms : List Lf} {cs ds : List Value}, LR ns ls cs → LR ns ms ds → LR ns (ls ++ ms) (cs ++ ds)
  | [], _, [], _, _, h => h
  | _ :: _, _, _ :: _, _, h, h' => ⟨h.1, LR.append h.2 h'⟩
  | [], _, _ :: _, _, h, _ => h.elim
  | _ :: _, _, [], _, h, _ => h.elim

theorem LR.take {ns : List Nat} : ∀ (n : Nat) {ls : List Lf} {cs : List Value}, LR ns ls cs → LR ns (ls.take n) (cs.take n)
  | 0, _, _, _ => by simp [LR]
  | n + 1, [], [], _ => by simp [LR]
  | n + 1, _ :: _, _ :: _, h => ⟨h.1, LR.take n h.2⟩
  | _ + 1, [], _ :: _, h => h.elim
  | _ + 1, _ :: _, [], h => h.elim

theorem LR.drop {ns : List Nat} : ∀ (n : Nat) {ls : List Lf} {cs : List Value}, LR ns ls cs → LR ns (ls.drop n) (cs.drop n)
  | 0, _, _, h => by simpa using h
  | n + 1, [], [], _ => by simp [LR]
  | n + 1, _ :: _, _ :: _, h => by simpa using LR.drop n h.2
  | _ + 1, [], _ :: _, h => h.elim
  | _ + 1, _ :: _, [], h => h.elim

theorem LR.of_v {ns : List Nat} : ∀ (cs : List Value), LR ns (cs.map .v) cs
  | [] => trivial
  | _ :: cs => ⟨rfl, LR.of_v cs⟩

theorem TR.length {ns : List Nat} : ∀ {ls : List AV} {cs : List Value}, TR ns ls cs → ls.length = cs.length
  | [], [], _ => rfl
  | _ :: _, _ :: _, h => by simp [TR.length h.2]
  | [], _ :: _, h => h.elim
  | _ :: _, [], h => h.elim

theorem TR.get {ns : List Nat} : ∀ {ls : List AV} {cs : List Value}, TR ns ls cs → ∀ (i : Nat) (l : AV), ls[i]? = some l → ∃ c, cs[i]? = some c ∧ l.R ns c
  | [], [], _, _, _, h => by simp at h
  | l :: ls, c :: cs, h, 0, l', e => by simp at e; subst e; exact ⟨c, by simp, h.1⟩
  | l :: ls, c :: cs, h, i + 1, l', e => by simpa using TR.get h.2 i l' (by simpa using e)
  | [], _ :: _, h, _, _, _ => h.elim
  | _ :: _, [], h, _, _, _ => h.elim

theorem TR.set {ns : List Nat} : ∀ {ls : List AV} {cs : List Value} (i : Nat) {l : AV} {c : Value}, TR ns ls cs → l.R ns c → TR ns (ls.set i l) (cs.set i c)
  | [], [], _, _, _, _, _ => by simp [TR]
  | _ :: _, _ :: _, 0, _, _, h, hl => ⟨hl, h.2⟩
  | _ :: _, _ :: _, i + 1, _, _, h, hl => ⟨h.1, TR.set i h.2 hl⟩
  | [], _ :: _, _, _, _, h, _ => h.elim
  | _ :: _, [], _, _, _, h, _ => h.elim

theorem Lf.R_any {ns : List Nat} (y : Value) : Lf.any.R ns y := trivial

/-! ### tags in range: extending the list of blocks changes nothing that was said -/
def Lf.wf (n : Nat) : Lf → Bool
  | .p t _ => Nat.blt t n
  | _ => true
def wfL (n : Nat) : List Lf → Bool
  | [] => true
  | l :: ls => match l.wf n with | true => wfL n ls | false => false
def wfU (n : Nat) : List (Bool × List Lf) → Bool
  | [] => true
  | e :: es => match wfL n e.2 with | true => wfU n es | false => false
def AV.wf (n : Nat) : AV → Bool
  | .one l => l.wf n
  | .s ls => wfL n ls
  | .u es => wfU n es
def wfT (n : Nat) : List AV → Bool
  | [] => true
  | l :: ls => match l.wf n with | true => wfT n ls | false => false
def HB.wf (n : Nat) : HB → Bool
  | .k _ ls => wfL n ls
  | .o _ => true
def wfH (n : Nat) : List HB → Bool
  | [] => true
  | b :: bs => match b.wf n with | true => wfH n bs | false => false

theorem Lf.R_ext {ns : List Nat} (ms : List Nat) {l : Lf} {c : Value} (hw : l.wf ns.length = true) (h : l.R ns c) : l.R (ns ++ ms) c := by
  cases l with
  | p t o =>
    have ht : t < ns.length := by simpa [Lf.wf, Nat.blt_eq] using hw
    simp only [Lf.R] at h ⊢
    rw [h]; simp [List.getD_eq_getElem?_getD, List.getElem?_append_left ht]
  | _ => exact h
theorem LR.ext {ns : List Nat} (ms : List Nat) : ∀ {ls : List Lf} {cs : List Value}, wfL ns.length ls = true → LR ns ls cs → LR (ns ++ ms) ls cs
  | [], [], _, _ => trivial
  | l :: ls, c :: cs, hw, h => by
    have h1 : l.wf ns.length = true := by
      cases e : l.wf ns.length <;> simp [wfL, e] at hw ⊢
    have h2 : wfL ns.length ls = true := by simpa [wfL, h1] using hw
    exact ⟨Lf.R_ext ms h1 h.1, LR.ext ms h2 h.2⟩
  | [], _ :: _, _, h => h.elim
  | _ :: _, [], _, h => h.elim
theorem UR1.ext {ns : List Nat} (ms : List Nat) : ∀ {e : Bool × List Lf} {v : Value}, wfL ns.length e.2 = true → UR1 ns e v → UR1 (ns ++ ms) e v
  | (true, ls), v, hw, ⟨cs, h1, h2⟩ => ⟨cs, h1, LR.ext ms hw h2⟩
  | (false, [l]), v, hw, h => by
    have h1 : l.wf ns.length = true := by cases e : l.wf ns.length <;> simp [wfL, e] at hw ⊢
    exact Lf.R_ext ms h1 h
  | (false, []), _, _, h => h.elim
  | (false, _ :: _ :: _), _, _, h => h.elim
theorem UR.ext {ns : List Nat} (ms : List Nat) : ∀ {es : List (Bool × List Lf)} {vs : List Value}, wfU ns.length es = true → UR ns es vs → UR (ns ++ ms) es vs
  | [], [], _, _ => trivial
  | e :: es, v :: vs, hw, h => by
    have h1 : wfL ns.length e.2 = true := by cases e1 : wfL ns.length e.2 <;> simp [wfU, e1] at hw ⊢
    have h2 : wfU ns.length es = true := by simpa [wfU, h1] using hw
    exact ⟨UR1.ext ms h1 h.1, UR.ext ms h2 h.2⟩
  | [], _ :: _, _, h => h.elim
  | _ :: _, [], _, h => h.elim
theorem AV.R_ext {ns : List Nat} (ms : List Nat) {l : AV} {c : Value} (hw : l.wf ns.length = true) (h : l.R ns c) : l.R (ns ++ ms) c := by
  cases l with
  | one l => exact Lf.R_ext (l := l) ms hw h
  | s ls => obtain ⟨cs, e, hc⟩ := h; exact ⟨cs, e, LR.ext ms hw hc⟩
  | u es => obtain ⟨vs, e, hc⟩ := h; exact ⟨vs, e, UR.ext ms hw hc⟩
theorem TR.ext {ns : List Nat} (ms : List Nat) : ∀ {ls : List AV} {cs : List Value}, wfT ns.length ls = true → TR ns ls cs → TR (ns ++ ms) ls cs
  | [], [], _, _ => trivial
  | l :: ls, c :: cs, hw, h => by
    have h1 : l.wf ns.length = true := by
      cases e : l.wf ns.length <;> simp [wfT, e] at hw ⊢
    have h2 : wfT ns.length ls = true := by simpa [wfT, h1] using hw
    exact ⟨AV.R_ext ms h1 h.1, TR.ext ms h2 h.2⟩
  | [], _ :: _, _, h => h.elim
  | _ :: _, [], _, h => h.elim
theorem HB.At.ext {ns : List Nat} (ms : List Nat) {b : HB} {o : Obj} (hw : b.wf ns.length = true) (h : b.At ns o) : b.At (ns ++ ms) o := by
  cases b with
  | k t ls => obtain ⟨cs, e, hl⟩ := h; exact ⟨cs, e, hl.ext ms hw⟩
  | o ob => exact h
theorem wfH_get {n : Nat} : ∀ {hs : List HB}, wfH n hs = true → ∀ (t : Nat) (b : HB), hs[t]? = some b → b.wf n = true
  | [], _, _, _, h => by simp at h
  | b :: bs, hw, 0, b', e => by
    simp at e; subst e
    cases e : b.wf n <;> simp [wfH, e] at hw ⊢
  | b :: bs, hw, t + 1, b', e => by
    have h1 : wfH n bs = true := by
      cases e : b.wf n <;> simp [wfH, e] at hw ⊢; exact hw
    exact wfH_get h1 t b' (by simpa using e)

/-! ### the class of worlds -/
/-- What only makes new blocks keeps all that is known. -/
theorem Mod.below {C : Ctx} {S : St} {w w' : World} (h : Mod C S w) (hb : Below w.heap.size w w') : Mod C S w' where
  g := ⟨hb.os.trans h.g.os, hb.tape.trans h.g.tape, hb.output.trans h.g.output, Nat.le_trans h.g.size hb.size,
    fun i hi hm => (hb.block i (Nat.lt_of_lt_of_le hi h.g.size)).trans (h.g.old i hi hm)⟩
  le0 := h.le0
  size := Nat.le_trans h.size hb.size
  old := fun i hi he hn => (hb.block i (Nat.lt_of_lt_of_le hi h.size)).trans (h.old i hi he hn)
  len := h.len
  blk := fun t b hb' => by
    obtain ⟨o, hc, hl⟩ := h.blk t b hb'
    exact ⟨o, (hb.block _ (Array.getElem?_eq_some_iff.1 hc).1).trans hc, hl⟩
  nodup := h.nodup
  sep := h.sep
  own := h.own
  exb := h.exb
  base := h.base
  osc := by
    obtain ⟨fp, ho⟩ := h.osc
    exact ⟨fp, ho.same (fun b hb' _ => hb.block b hb') hb.size (fun _ _ h => h)⟩

theorem Mod.drawn {C : Ctx} {S : St} {w : World} (h : Mod C S w) (n : Nat) : Mod C S { w with drawn := n } :=
  h.below ⟨rfl, rfl, rfl, Nat.le_refl _, fun _ _ => rfl⟩

/-- The slots do not matter to the class. -/
theorem Mod.tm {C : Ctx} {S : St} {w : World} (h : Mod C S w) (tm : List AV) : Mod C { S with tm } w :=
  ⟨h.g, h.le0, h.size, h.old, h.len, h.blk, h.nodup, h.sep, h.own, h.exb, h.base, h.osc⟩

theorem getD_mem {ns : List Nat} {t : Nat} (ht : t < ns.length) : ns.getD t 0 ∈ ns := by
  rw [List.getD_eq_getElem?_getD, List.getElem?_eq_getElem ht]; exact List.getElem_mem ht
theorem getD_of {ns : List Nat} {t n : Nat} (h : ns[t]? = some n) : ns.getD t 0 = n := by
  rw [List.getD_eq_getElem?_getD, h]; rfl

theorem Mod.tag_lt {C : Ctx} {S : St} {w : World} (h : Mod C S w) {n : Nat} (hn : n ∈ S.ns) : n < w.heap.size := by
  obtain ⟨t, ht, e⟩ := List.getElem_of_mem hn
  have hb : S.hs[t]? = some (S.hs[t]'(by rw [← h.len]; exact ht)) := List.getElem?_eq_getElem _
  obtain ⟨o, hc, _⟩ := h.blk t _ hb
  rw [getD_of (by rw [List.getElem?_eq_getElem ht, e])] at hc
  exact (Array.getElem?_eq_some_iff.1 hc).1

/-- A data block (not excluded, there at the snapshot) is as it was at the snapshot. -/
theorem Mod.data {C : Ctx} {S : St} {w : World} (h : Mod C S w) {b : Nat} (hb : b < S.W.heap.size) (he : ¬ S.E b) : b ∉ S.ns ∧ w.heap[b]? = S.W.heap[b]? := by
  have hn : b ∉ S.ns := fun hm => (h.sep b hm).elim he (fun h => absurd hb (Nat.not_lt.2 h))
  exact ⟨hn, h.old b hb he hn⟩

/-! ### one step -/
def OKs (P : Program) (o : Oper) (a : Act) (w : World) (next : Act → World → Prop) : Prop := ∀ Q, o.wp P a w next Q

def Step (C : Ctx) (o : Oper) (S : St) (k : St → Prop) : Prop :=
  ∀ a w, Sim S a → Mod C S w → OKs C.P o a w fun a' w' => ∃ S', k S' ∧ Sim S' a' ∧ Mod C S' w'

/-- A step that keeps all that was known. -/
def StepM (C : Ctx) (o : Oper) (S : St) (k : St → Prop) : Prop :=
  ∀ a w, Sim S a → Mod C S w → OKs C.P o a w fun a' w' => Mod C S w' ∧ ∃ S', k S' ∧ Sim S' a' ∧ Mod C S' w'

/-- A step that leaves the world alone, with the same answer in all worlds of the class. -/
def Quiet (C : Ctx) (o : Oper) (S : St) (r : AV) : Prop :=
  ∀ a, Sim S a → ∃ y, r.R S.ns y ∧ ∀ w, Mod C S w → (execOp a.eval o).run C.P w = .ok (.value y) w

def St.put (S : St) (dst : Option Tmp) (r : AV) : St :=
  match dst with
  | some d => { S with tm := S.tm.set d r }
  | none => S

theorem Sim.put {S : St} {a : Act} (h : Sim S a) {dst : Option Tmp} {r : AV} {y : Value} (hr : r.R S.ns y) : Sim (S.put dst r) (a.put dst y) := by
  cases dst with
  | none => exact h
  | some d =>
    refine ⟨h.d, ?_⟩
    show TR S.ns (S.tm.set d r) (a.tmps.setIfInBounds d y).toList
    rw [Array.toList_setIfInBounds]
    exact TR.set d h.t hr

theorem Mod.put {C : Ctx} {S : St} {w : World} (h : Mod C S w) (dst : Option Tmp) (r : AV) : Mod C (S.put dst r) w := by
  cases dst with
  | none => exact h
  | some d => exact h.tm _

theorem Quiet.stepM {C : Ctx} {o : Oper} {S : St} {r : AV} (h : Quiet C o S r) {k : St → Prop} (hk : k (S.put o.dst r)) : StepM C o S k := by
  intro a w hs hm Q
  obtain ⟨y, hy, hr⟩ := h a hs
  unfold Oper.wp
  rw [hr w hm, Oper.upon_value]
  exact ⟨hm, _, hk, hs.put hy, hm.put _ _⟩

theorem StepM.step {C : Ctx} {o : Oper} {S : St} {k : St → Prop} (h : StepM C o S k) : Step C o S k := by
  intro a w hs hm Q
  exact Oper.wp_mono (fun _ _ h => h.2) (h a w hs hm Q)

theorem Step.mono {C : Ctx} {o : Oper} {S : St} {k k' : St → Prop} (h : Step C o S k) (hk : ∀ S', k S' → k' S') : Step C o S k' := by
  intro a w hs hm Q
  exact Oper.wp_mono (fun _ _ ⟨S', h1, h2⟩ => ⟨S', hk _ h1, h2⟩) (h a w hs hm Q)

/-! ### what a piece of code comes to -/
def EV (C : Ctx) (c : Code) (S : St) (K : Exit → St → Prop) : Prop :=
  ∀ a w, Sim S a → Mod C S w → c.wp C.P (fun e a' w' => ∃ S', K e S' ∧ Sim S' a' ∧ Mod C S' w') a w

def thenK (K : Exit → St → Prop) (next : St → Prop) : Exit → St → Prop
  | .normal, S => next S
  | e, S => K e S

def blockK (id : Nat) (K : Exit → St → Prop) : Exit → St → Prop
  | .exit id', S => match Nat.beq id' id with | true => K .normal S | false => K (.exit id') S
  | e, S => K e S

theorem EV.mono {C : Ctx} {c : Code} {S : St} {K K' : Exit → St → Prop} (h : EV C c S K) (hk : ∀ e S, K e S → K' e S) : EV C c S K' :=
  fun a w hs hm => wp_mono (h a w hs hm) fun _ _ _ ⟨S', h1, h2⟩ => ⟨S', hk _ _ h1, h2⟩

theorem EV.skip {C : Ctx} {S : St} {K : Exit → St → Prop} (h : K .normal S) : EV C .skip S K :=
  fun _ _ hs hm => wp_skip ⟨S, h, hs, hm⟩
theorem EV.ret {C : Ctx} {S : St} {K : Exit → St → Prop} (h : K .ret S) : EV C .ret S K :=
  fun _ _ hs hm => wp_ret ⟨S, h, hs, hm⟩
theorem EV.exit {C : Ctx} {S : St} {K : Exit → St → Prop} {id : Nat} (h : K (.exit id) S) : EV C (.exit id) S K :=
  fun _ _ hs hm => wp_exit ⟨S, h, hs, hm⟩
theorem EV.label {C : Ctx} {S : St} {K : Exit → St → Prop} {l : Nat} (h : K .normal S) : EV C (.label l) S K :=
  fun _ _ hs hm => wp_label ⟨S, h, hs, hm⟩
theorem EV.seq {C : Ctx} {x y : Code} {S : St} {K : Exit → St → Prop} (h : EV C x S (thenK K fun S' => EV C y S' K)) : EV C (.seq x y) S K := by
  intro a w hs hm
  refine wp_seq (wp_mono (h a w hs hm) ?_)
  rintro e a' w' ⟨S', h1, h2, h3⟩
  cases e with
  | normal => exact h1 a' w' h2 h3
  | _ => exact ⟨S', h1, h2, h3⟩
theorem EV.block {C : Ctx} {id : Nat} {c : Code} {S : St} {K : Exit → St → Prop} (h : EV C c S (blockK id K)) : EV C (.block id c) S K := by
  intro a w hs hm
  refine wp_block (wp_mono (h a w hs hm) ?_)
  rintro e a' w' ⟨S', h1, h2, h3⟩
  cases e with
  | exit id' =>
    simp only [blockK] at h1
    simp only [Exit.inBlock]
    cases hb : Nat.beq id' id with
    | true => rw [hb] at h1; rw [if_pos (Nat.eq_of_beq_eq_true hb)]; exact ⟨S', h1, h2, h3⟩
    | false => rw [hb] at h1; rw [if_neg (Nat.ne_of_beq_eq_false hb)]; exact ⟨S', h1, h2, h3⟩
  | _ => exact ⟨S', h1, h2, h3⟩

theorem EV.cond {C : Ctx} {c : Operand} {x y : Code} {S : St} {K : Exit → St → Prop} {t : Bool} (hc : ∀ a, Sim S a → a.eval c = .bool t)
    (ht : t = true → EV C x S K) (hf : t = false → EV C y S K) : EV C (.cond c x y) S K := by
  intro a w hs hm
  exact wp_cond_split (hc a hs) (fun e => ht e a w hs hm) (fun e => hf e a w hs hm)

/-- A loop: a family of states, one of which each round begins in. -/
theorem EV.loop {C : Ctx} {body : Code} {S : St} {K : Exit → St → Prop} {ι : Type} (F : ι → St) (μ : ι → Nat) (Inv : ι → Prop)
    (init : ∀ a w, Sim S a → Mod C S w → ∃ x, Inv x ∧ Sim (F x) a ∧ Mod C (F x) w)
    (round : ∀ x, Inv x → EV C body (F x) (thenK K fun S' => ∀ a w, Sim S' a → Mod C S' w → ∃ y, Inv y ∧ μ y < μ x ∧ Sim (F y) a ∧ Mod C (F y) w)) :
    EV C (.loop body) S K := by
  intro a w hs hm
  obtain ⟨x0, hi0, hs0, hm0⟩ := init a w hs hm
  clear hs hm init
  intro b k cs
  have key : ∀ n x, μ x = n → ∀ a w, Inv x → Sim (F x) a → Mod C (F x) w →
      ∃ e a' w', (∃ S', K e S' ∧ Sim S' a' ∧ Mod C S' w') ∧ Arrives C.P (lone (b.at a (.code body :: .inLoop body :: k)) cs w) b k cs e a' w' := by
    intro n
    induction n using Nat.strongRecOn with
    | _ n ih =>
      intro x hx a w hi hs hm
      obtain ⟨e, a₁, w₁, ⟨S₁, hq, hs₁, hm₁⟩, harr⟩ := round x hi a w hs hm b (.inLoop body :: k) cs
      cases e with
      | normal =>
        obtain ⟨y, hy, hlt, hs₂, hm₂⟩ := hq a₁ w₁ hs₁ hm₁
        obtain ⟨e₂, a₂, w₂, hq₂, harr₂⟩ := ih (μ y) (hx ▸ hlt) y rfl a₁ w₁ hy hs₂ hm₂
        exact ⟨e₂, a₂, w₂, hq₂, .of_steps (Steps.trans harr (.one step_inLoop)) harr₂⟩
      | exit id => exact ⟨_, a₁, w₁, ⟨S₁, hq, hs₁, hm₁⟩, .pass (x := .inLoop body) rfl (fun _ _ => .inl (by simp)) harr⟩
      | goto l => exact ⟨_, a₁, w₁, ⟨S₁, hq, hs₁, hm₁⟩, .pass (x := .inLoop body) rfl (fun _ _ => .inl (by simp)) harr⟩
      | ret => exact ⟨_, a₁, w₁, ⟨S₁, hq, hs₁, hm₁⟩, .pass (x := .inLoop body) rfl (fun _ _ => .inl (by simp)) harr⟩
      | panic ch => exact ⟨_, a₁, w₁, ⟨S₁, hq, hs₁, hm₁⟩, .pass (x := .inLoop body) rfl (fun _ _ => .inl (by simp)) harr⟩
      | outgrown => exact ⟨_, a₁, w₁, ⟨S₁, hq, hs₁, hm₁⟩, .pass (x := .inLoop body) rfl (fun _ _ => .inl (by simp)) harr⟩
  obtain ⟨e, a', w', hq, harr⟩ := key _ x0 rfl a w hi0 hs0 hm0
  exact ⟨e, a', w', hq, .of_steps (.one step_loop) harr⟩

end Go.Ev
