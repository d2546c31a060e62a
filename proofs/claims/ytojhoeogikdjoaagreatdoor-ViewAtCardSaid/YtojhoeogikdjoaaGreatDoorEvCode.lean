/- A symbolic walk: regions in the order of the text or in any order, code, calls; conditions: the table of types is the program's, and the program lets orders mix. -/
import Derived.Test.YtojhoeogikdjoaaGreatDoorEvN
import Derived.OrdersHeld
set_option linter.unusedSimpArgs false
set_option linter.unusedVariables false
namespace Go.Ev
open Go.RowKit

/-! ### guards -/
def dstOf : List Oper → Nat → Option Tmp
  | [], _ => none
  | o :: _, 0 => o.dst
  | _ :: l, n + 1 => dstOf l n
theorem dstOf_eq : ∀ (l : List Oper) (n : Nat), dstOf l n = (l[n]?).bind (·.dst)
  | [], _ => by simp [dstOf]
  | o :: _, 0 => by simp [dstOf]
  | _ :: l, n + 1 => by simp [dstOf, dstOf_eq l n]

/-- Goes on with an operation or past it, as its guard says. -/
def guardK (ops : List Oper) (S : St) (o : Oper) (run skip : St → Prop) : Prop :=
  match o.guard with
  | none => run S
  | some (g, want) => match dstOf ops g with
    | none => False
    | some d => getK S.tm d fun a => match a with
      | .one .tt => (match want with | true => run S | false => skip S)
      | .one .ff => (match want with | true => skip S | false => run S)
      | .one (.v (.bool b)) => (b = true → putK S (some d) (.one .tt) (match want with | true => run | false => skip)) ∧
          (b = false → putK S (some d) (.one .ff) (match want with | true => skip | false => run))
      | .one (.v (.tuple _)) => skip S
      | _ => False

section
variable {C : Ctx} {T : Tr} {S : St}

theorem yielded_of {ops : List Oper} {g : Nat} {d : Tmp} {a : Act} {y : Value} (hd : dstOf ops g = some d) (hy : a.tmps[d]? = some y) : yielded ops.toArray a.tmps g = (match y with | .bool b => some b | _ => none) := by
  unfold yielded
  have : (ops.toArray[g]?).bind (·.dst) = some d := by rw [← hd, dstOf_eq]; simp
  rw [this]
  simp only [Option.bind_some, hy]
  cases y <;> rfl

theorem Sim.retag {a : Act} {d : Nat} {x : AV} {y : Value} (h : Sim S a) (hy : a.tmps[d]? = some y) (hx : x.R S.ns y) : Sim (S.put (some d) x) a := by
  have h1 := h.put (dst := some d) hx
  have h2 : a.put (some d) y = a := by
    show { a with tmps := a.tmps.setIfInBounds d y } = a
    have : a.tmps.setIfInBounds d y = a.tmps := by
      apply Array.ext'
      rw [Array.toList_setIfInBounds]
      apply List.ext_getElem?
      intro i
      rw [List.getElem?_set]
      split
      · subst_vars; split
        · rw [Array.getElem?_toList]; exact hy.symm
        · rename_i hlt; rw [List.getElem?_eq_none (by omega)]
      · rfl
    rw [this]
  rw [h2] at h1; exact h1

/-- What a guard decides. -/
theorem guardK_sound {ops : List Oper} {o : Oper} {run skip : St → Prop} (h : guardK ops S o run skip) {a : Act} {w : World} (hs : Sim S a) (hm : Mod C S w) :
    ∃ S', Sim S' a ∧ Mod C S' w ∧ S'.ns = S.ns ∧ S'.W = S.W ∧ S'.E = S.E ∧ S'.os = S.os ∧ S'.hs = S.hs ∧ ((Region.wanted o (yielded ops.toArray a.tmps) = true ∧ run S') ∨ (Region.wanted o (yielded ops.toArray a.tmps) = false ∧ skip S')) := by
  unfold guardK at h
  split at h
  · rename_i hg
    exact ⟨S, hs, hm, rfl, rfl, rfl, rfl, rfl, .inl ⟨by simp [Region.wanted, hg], h⟩⟩
  · rename_i g want hg
    split at h
    · cases h
    · rename_i d hd
      rw [getK_eq] at h
      cases e : S.tm[d]? with
      | none =>
        have e2 : a.tmps[d]? = none := by
          rw [← Array.getElem?_toList, List.getElem?_eq_none_iff, ← hs.t.length]
          exact List.getElem?_eq_none_iff.1 e
        have hw : Region.wanted o (yielded ops.toArray a.tmps) = false := by
          unfold Region.wanted yielded
          have : (ops.toArray[g]?).bind (·.dst) = some d := by rw [← hd, dstOf_eq]; simp
          simp only [hg, this, Option.bind_some, e2]; rfl
        rw [List.getD_eq_getElem?_getD, e] at h
        exact ⟨S, hs, hm, rfl, rfl, rfl, rfl, rfl, .inr ⟨hw, h⟩⟩
      | some x =>
        obtain ⟨y, hy, hr⟩ := hs.t.get d x e
        have hy : a.tmps[d]? = some y := by rw [← Array.getElem?_toList]; exact hy
        have hyd := yielded_of hd hy
        have hw : Region.wanted o (yielded ops.toArray a.tmps) = (match y with | .bool b => b == want | _ => false) := by
          simp only [Region.wanted, hg, hyd]
          cases y <;> rfl
        rw [List.getD_eq_getElem?_getD, e] at h
        simp only [Option.getD_some] at h
        split at h
        · obtain rfl := R_tt hr rfl
          cases want with
          | true => exact ⟨S, hs, hm, rfl, rfl, rfl, rfl, rfl, .inl ⟨hw, h⟩⟩
          | false => exact ⟨S, hs, hm, rfl, rfl, rfl, rfl, rfl, .inr ⟨hw, h⟩⟩
        · obtain rfl := R_ff hr rfl
          cases want with
          | true => exact ⟨S, hs, hm, rfl, rfl, rfl, rfl, rfl, .inr ⟨hw, h⟩⟩
          | false => exact ⟨S, hs, hm, rfl, rfl, rfl, rfl, rfl, .inl ⟨hw, h⟩⟩
        · rename_i b
          obtain rfl := R_v hr rfl
          rw [putK_eq, putK_eq] at h
          cases b with
          | true =>
            have h1 := h.1 rfl
            refine ⟨_, hs.retag hy (x := .one .tt) rfl, hm.put _ _, rfl, rfl, rfl, rfl, rfl, ?_⟩
            cases want with
            | true => exact .inl ⟨hw, h1⟩
            | false => exact .inr ⟨hw, h1⟩
          | false =>
            have h1 := h.2 rfl
            refine ⟨_, hs.retag hy (x := .one .ff) rfl, hm.put _ _, rfl, rfl, rfl, rfl, rfl, ?_⟩
            cases want with
            | true => exact .inr ⟨hw, h1⟩
            | false => exact .inl ⟨hw, h1⟩
        · obtain rfl := R_v hr rfl
          exact ⟨S, hs, hm, rfl, rfl, rfl, rfl, rfl, .inr ⟨hw, h⟩⟩
        · cases h

/-! ### a region in the order of the text -/
def evO (C : Ctx) (T : Tr) (S : St) (o : Oper) (k : St → Prop) : Prop :=
  match isQ o.op with
  | true => evP C.P T S o.op fun r => putK S o.dst r k
  | false => evN C T false S o k

theorem evO_sound {o : Oper} {k : St → Prop} (hT : T.OK C.P) (h : evO C T S o k) {a : Act} {w : World} (hs : Sim S a) (hm : Mod C S w) :
    OKs C.P o a w fun a' w' => ∃ S', k S' ∧ Sim S' a' ∧ Mod C S' w' := by
  unfold evO at h
  split at h
  · obtain ⟨r, hq, hk⟩ := evP_sound (C := C) hT h
    obtain ⟨y, hy, hr⟩ := hq a hs
    intro Q
    unfold Oper.wp
    rw [hr w hm, Oper.upon_value]
    exact putK_sim hk hs hm hy
  · intro Q
    exact Oper.wp_mono (fun _ _ h => h.2) (evN_sound hT h a w hs hm Q)

/-- By the recursor itself, so that the kernel and the walk unfold it alike. -/
noncomputable def evL (C : Ctx) (T : Tr) (ops : List Oper) (l : List Oper) : St → (St → Prop) → Prop :=
  @List.rec Oper (fun _ => St → (St → Prop) → Prop) (fun S k => k S)
    (fun o _ ih S k => guardK ops S o (fun S => evO C T S o fun S => ih S k) (fun S => putK S o.dst (.one (.v undef)) fun S => ih S k)) l
theorem evL_nil (ops : List Oper) (S : St) (k : St → Prop) : evL C T ops [] S k = k S := rfl
theorem evL_cons (ops : List Oper) (o : Oper) (rest : List Oper) (S : St) (k : St → Prop) : evL C T ops (o :: rest) S k =
    guardK ops S o (fun S => evO C T S o fun S => evL C T ops rest S k) (fun S => putK S o.dst (.one (.v undef)) fun S => evL C T ops rest S k) := rfl

theorem evL_sound (hT : T.OK C.P) {ops : List Oper} {Q : Exit → Act → World → Prop} : ∀ {l : List Oper} {S : St} {k : St → Prop}, evL C T ops l S k →
    (∀ S' a' w', k S' → Sim S' a' → Mod C S' w' → Q .normal a' w') → ∀ {a : Act} {w : World}, Sim S a → Mod C S w → wpList C.P ops.toArray Q l a w
  | [], S, k, h, hQ, a, w, hs, hm => hQ S a w h hs hm
  | o :: rest, S, k, h, hQ, a, w, hs, hm => by
    rw [evL_cons] at h
    obtain ⟨S', hs', hm', _, _, _, _, _, hor⟩ := guardK_sound h hs hm
    simp only [wpList]
    rcases hor with ⟨hw, hr⟩ | ⟨hw, hr⟩
    · rw [if_pos hw]
      refine .inl (Oper.wp_mono ?_ (evO_sound hT hr hs' hm' Q))
      rintro a1 w1 ⟨S1, h1, h2, h3⟩
      exact evL_sound hT h1 hQ h2 h3
    · rw [if_neg (by rw [hw]; simp)]
      obtain ⟨S1, h1, h2, h3⟩ := putK_sim hr hs' hm' (y := undef) rfl
      exact evL_sound hT h1 hQ h2 h3

end

/-! ### who waits for whom in a region -/
inductive Anc (ops : Array Oper) : Nat → Nat → Prop where
  | one {i j : Nat} {o : Oper} {e : Edge} (hj : ops[j]? = some o) (he : e ∈ o.after) (hb : Region.binds .any e = true) (hi : e.on = i) : Anc ops i j
  | step {i j : Nat} {o : Oper} {e : Edge} (hj : ops[j]? = some o) (he : e ∈ o.after) (hb : Region.binds .any e = true) (hi : Anc ops i e.on) : Anc ops i j

def maskOf (acc : List Nat) : List Edge → Nat
  | [] => 0
  | e :: es => match Region.binds .any e with
    | true => Nat.lor (Nat.lor (2 ^ e.on) (acc.getD e.on 0)) (maskOf acc es)
    | false => maskOf acc es
def masksFrom : List Oper → List Nat → List Nat
  | [], acc => acc
  | o :: os, acc => masksFrom os (acc ++ [maskOf acc o.after.toList])
def masks (ops : List Oper) : List Nat := masksFrom ops []

theorem maskOf_sound {ops : Array Oper} {acc : List Nat} {j : Nat} {o : Oper} (hj : ops[j]? = some o) (hacc : ∀ j i, (acc.getD j 0).testBit i = true → Anc ops i j) :
    ∀ {es : List Edge}, (∀ e ∈ es, e ∈ o.after) → ∀ i, (maskOf acc es).testBit i = true → Anc ops i j
  | [], _, i, h => by simp [maskOf] at h
  | e :: es, hsub, i, h => by
    unfold maskOf at h
    split at h
    · rename_i hb
      have h' : (((2 ^ e.on ||| acc.getD e.on 0) ||| maskOf acc es).testBit i) = true := h
      rw [Nat.testBit_or, Nat.testBit_or] at h'
      simp only [Bool.or_eq_true] at h'
      rcases h' with (h' | h') | h'
      · rw [Nat.testBit_two_pow] at h'
        exact .one hj (hsub e (by simp)) hb (by simpa using h')
      · exact .step hj (hsub e (by simp)) hb (hacc _ _ h')
      · exact maskOf_sound hj hacc (fun e he => hsub e (by simp [he])) i h'
    · exact maskOf_sound hj hacc (fun e he => hsub e (by simp [he])) i h

theorem masksFrom_sound {ops : Array Oper} : ∀ {os : List Oper} {acc : List Nat}, (∀ k, os[k]? = ops[acc.length + k]?) → (∀ j i, (acc.getD j 0).testBit i = true → Anc ops i j) →
    ∀ j i, ((masksFrom os acc).getD j 0).testBit i = true → Anc ops i j
  | [], acc, _, hacc, j, i, h => hacc j i h
  | o :: os, acc, hk, hacc, j, i, h => by
    unfold masksFrom at h
    refine masksFrom_sound (fun k => ?_) (fun j i h => ?_) j i h
    · have := hk (k + 1)
      rw [List.length_append]
      simp only [List.getElem?_cons_succ] at this
      rw [this]; congr 1; simp; omega
    · rcases Nat.lt_trichotomy j acc.length with hj | hj | hj
      · rw [List.getD_eq_getElem?_getD, List.getElem?_append_left hj, ← List.getD_eq_getElem?_getD] at h
        exact hacc j i h
      · subst hj
        rw [List.getD_eq_getElem?_getD, List.getElem?_append_right (Nat.le_refl _), Nat.sub_self] at h
        have h0 := hk 0
        simp only [List.getElem?_cons_zero, Nat.add_zero] at h0
        exact maskOf_sound h0.symm hacc (fun e he => Array.mem_toList_iff.1 he) i (by simpa using h)
      · rw [List.getD_eq_getElem?_getD, List.getElem?_eq_none (by rw [List.length_append]; simp; omega)] at h
        simp at h

theorem masks_sound {ops : List Oper} {j i : Nat} (h : ((masks ops).getD j 0).testBit i = true) : Anc ops.toArray i j :=
  masksFrom_sound (ops := ops.toArray) (os := ops) (acc := []) (fun k => by simp) (fun j i h => by simp at h) j i h

/-- Operations that yield the same in every world. -/
def isX : Op → Bool
  | .move _ | .assign _ | .extract .. => true
  | _ => false
theorem isX_any {P : Program} {o : Oper} {a : Act} {w : World} {y : Value} (h : isX o.op = true) (hr : (execOp a.eval o).run P w = .ok (.value y) w) (w' : World) : (execOp a.eval o).run P w' = .ok (.value y) w' := by
  cases ho : o.op with
  | move x => rw [execOp, ho] at hr ⊢; cases hr; rfl
  | assign x => rw [execOp, ho] at hr ⊢; cases hr; rfl
  | extract t i =>
    rw [execOp, ho] at hr ⊢
    simp only at hr ⊢
    have key : ∀ v : Value, (do pure (Next.value (← Instr.extract v i)) : Sem Next).run P w = .ok (.value y) w → (do pure (Next.value (← Instr.extract v i)) : Sem Next).run P w' = .ok (.value y) w' := by
      intro v h
      cases v with
      | tuple vs =>
        unfold Instr.extract at h ⊢
        simp only at h ⊢
        cases hv : vs[i]? with
        | none => rw [hv] at h; cases h
        | some u => rw [hv] at h; cases h; rfl
      | _ => cases h
    exact key _ hr
  | _ => rw [ho] at h; cases h
def isXi : List Oper → Nat → Bool
  | [], _ => false
  | o :: _, 0 => isX o.op
  | _ :: l, i + 1 => isXi l i
theorem isXi_get : ∀ {l : List Oper} {i : Nat} {o : Oper}, l[i]? = some o → isXi l i = isX o.op
  | [], _, _, h => by simp at h
  | _ :: _, 0, _, h => by simp at h; subst h; rfl
  | _ :: l, i + 1, o, h => by simp only [isXi]; exact isXi_get (by simpa using h)
/-- Is everything else before or behind it, but for what yields the same in every world? -/
def cmpB (ops : List Oper) (ms : List Nat) (n j : Nat) : Bool := (List.range n).all fun i => i == j || (ms.getD j 0).testBit i || (ms.getD i 0).testBit j || isXi ops i

/-- Numbers reckoned ahead. -/
def natB (n : Nat) (k : Nat → Bool) : Bool :=
  match n with
  | 0 => k 0
  | m + 1 => k (m + 1)
theorem natB_eq (n : Nat) (k : Nat → Bool) : natB n k = k n := by cases n <;> rfl
def masksB : List Oper → List Nat → (List Nat → Bool) → Bool
  | [], acc, k => k acc
  | o :: os, acc, k => natB (maskOf acc o.after.toList) fun n => masksB os (acc ++ [n]) k
theorem masksB_eq : ∀ (os : List Oper) (acc : List Nat) (k : List Nat → Bool), masksB os acc k = k (masksFrom os acc)
  | [], _, _ => rfl
  | o :: os, acc, k => by simp only [masksB, natB_eq]; rw [masksB_eq os]; rfl
def regRow (ops : List Oper) (ms : List Nat) (i : Nat) (oi : Oper) : List Oper → Nat → Bool
  | [], _ => true
  | oj :: os, j => (match (ms.getD j 0).testBit i with
    | true => true
    | false => match (ms.getD i 0).testBit j with
      | true => true
      | false => match Nat.beq i j with
        | true => true
        | false => oi.apart ops.toArray oj && oj.apart ops.toArray oi) && regRow ops ms i oi os (j + 1)
def regAll (ops : List Oper) (ms : List Nat) : List Oper → Nat → Bool
  | [], _ => true
  | oi :: os, i => regRow ops ms i oi os (i + 1) && regAll ops ms os (i + 1)
/-- No two operations that may change places touch each other's slots. -/
def regB (ops : List Oper) : Bool := Region.noSelect ops.toArray && masksB ops [] fun ms => regAll ops ms ops 0

theorem regRow_sound {ops : List Oper} {ms : List Nat} {i : Nat} {oi : Oper} : ∀ {os : List Oper} {j : Nat}, regRow ops ms i oi os j = true → ∀ (k : Nat) (o : Oper), os[k]? = some o →
    (ms.getD (j + k) 0).testBit i = true ∨ (ms.getD i 0).testBit (j + k) = true ∨ i = j + k ∨ (oi.apart ops.toArray o = true ∧ o.apart ops.toArray oi = true)
  | [], _, _, _, _, h => by simp at h
  | oj :: os, j, h, k, o, ho => by
    simp only [regRow, Bool.and_eq_true] at h
    cases k with
    | zero =>
      simp only [List.getElem?_cons_zero, Option.some.injEq] at ho; subst ho
      have h1 := h.1
      split at h1
      · exact .inl (by assumption)
      · split at h1
        · exact .inr (.inl (by assumption))
        · split at h1
          · rename_i hb; exact .inr (.inr (.inl (Nat.eq_of_beq_eq_true hb)))
          · simp only [Bool.and_eq_true] at h1; exact .inr (.inr (.inr h1))
    | succ k =>
      have := regRow_sound h.2 k o (by simpa using ho)
      rw [show j + 1 + k = j + (k + 1) by omega] at this
      exact this

theorem regAll_sound {ops : List Oper} {ms : List Nat} : ∀ {os : List Oper} {i : Nat}, regAll ops ms os i = true → ∀ (a b : Nat) (oa ob : Oper), os[a]? = some oa → os[b]? = some ob → a < b →
    (ms.getD (i + b) 0).testBit (i + a) = true ∨ (ms.getD (i + a) 0).testBit (i + b) = true ∨ (oa.apart ops.toArray ob = true ∧ ob.apart ops.toArray oa = true)
  | [], _, _, _, _, _, _, h, _, _ => by simp at h
  | o :: os, i, h, a, b, oa, ob, ha, hb, hlt => by
    simp only [regAll, Bool.and_eq_true] at h
    cases a with
    | zero =>
      simp only [List.getElem?_cons_zero, Option.some.injEq] at ha; subst ha
      obtain ⟨b', rfl⟩ : ∃ b', b = b' + 1 := ⟨b - 1, by omega⟩
      have := regRow_sound h.1 b' ob (by simpa using hb)
      rw [show i + 1 + b' = i + (b' + 1) by omega] at this
      rcases this with h1 | h1 | h1 | h1
      · exact .inl h1
      · exact .inr (.inl h1)
      · omega
      · exact .inr (.inr h1)
    | succ a =>
      obtain ⟨b', rfl⟩ : ∃ b', b = b' + 1 := ⟨b - 1, by omega⟩
      have := regAll_sound h.2 a b' oa ob (by simpa using ha) (by simpa using hb) (by omega)
      rw [show i + 1 + b' = i + (b' + 1) by omega, show i + 1 + a = i + (a + 1) by omega] at this
      exact this

theorem regB_sound {ops : List Oper} (h : regB ops = true) : Region.noSelect ops.toArray = true ∧ ∀ (i j : Nat) (oi oj : Oper), ops[i]? = some oi → ops[j]? = some oj → j ≠ i →
    Anc ops.toArray i j ∨ Anc ops.toArray j i ∨ oi.apart ops.toArray oj = true := by
  unfold regB at h
  rw [Bool.and_eq_true, masksB_eq] at h
  refine ⟨h.1, fun i j oi oj hi hj hne => ?_⟩
  rcases Nat.lt_or_ge i j with hlt | hge
  · rcases regAll_sound h.2 i j oi oj hi hj hlt with h1 | h1 | h1
    · rw [Nat.zero_add, Nat.zero_add] at h1; exact .inl (masks_sound h1)
    · rw [Nat.zero_add, Nat.zero_add] at h1; exact .inr (.inl (masks_sound h1))
    · exact .inr (.inr h1.1)
  · rcases regAll_sound h.2 j i oj oi hj hi (by omega) with h1 | h1 | h1
    · rw [Nat.zero_add, Nat.zero_add] at h1; exact .inr (.inl (masks_sound h1))
    · rw [Nat.zero_add, Nat.zero_add] at h1; exact .inl (masks_sound h1)
    · exact .inr (.inr h1.2)

def Down (ops : Array Oper) (listed : Array Bool) : Prop := ∀ j o, listed.getD j false = true → ops[j]? = some o → ∀ e ∈ o.after, Region.binds .any e = true → listed.getD e.on false = true

theorem anc_listed {ops : Array Oper} {listed : Array Bool} (hd : Down ops listed) {i j : Nat} (h : Anc ops i j)
    (hj : ∀ o, ops[j]? = some o → ∀ e ∈ o.after, Region.binds .any e = true → listed.getD e.on false = true) : listed.getD i false = true := by
  induction h with
  | one hjo he hb hi => rw [← hi]; exact hj _ hjo _ he hb
  | step hjo he hb hi ih => exact ih fun o ho e' he' hb' => hd _ o (hj _ hjo _ he hb) ho e' he' hb'

theorem Down.set {ops : Array Oper} {listed : Array Bool} (hd : Down ops listed) {j : Nat} (hj : j ∈ Region.ready .any ops listed) : Down ops (listed.setIfInBounds j true) := by
  intro k o hk ho e he hb
  obtain ⟨_, oj, hoj, hall⟩ := mem_ready.1 hj
  by_cases hjk : j = k
  · subst hjk
    rw [hoj] at ho; simp only [Option.some.injEq] at ho; subst ho
    exact getD_set_true (hall e he hb)
  · rw [getD_set_ne false hjk] at hk
    exact getD_set_true (hd k o hk ho e he hb)

section
variable {P : Program} {ops : Array Oper} {Q : Exit → Act → World → Prop} {H : World → Prop} {tl : Nat → Bool}

/-- Whatever order is picked; 'H' holds behind each operation that others may change places with. -/
def wpAnyT (P : Program) (ops : Array Oper) (Q : Exit → Act → World → Prop) (H : World → Prop) (tl : Nat → Bool) : Nat → Array Bool → Act → World → Prop
  | 0, listed, a, w => Region.ready .any ops listed = [] ∧ Q .normal a w
  | fuel + 1, listed, a, w =>
    (Region.ready .any ops listed = [] → Q .normal a w) ∧
    ∀ i ∈ Region.ready .any ops listed, wpOp P ops Q i (fun a' w' =>
      (tl i = true → wpAny P .any ops Q fuel (listed.setIfInBounds i true) a' w') ∧
      (tl i = false → H w' ∧ wpAnyT P ops Q H tl fuel (listed.setIfInBounds i true) a' w')) a w

theorem wpAny_of_T : ∀ (fuel : Nat) (listed : Array Bool) (a : Act) (w : World), wpAnyT P ops Q H tl fuel listed a w → wpAny P .any ops Q fuel listed a w
  | 0, _, _, _, h => h
  | fuel + 1, _, _, _, h => ⟨h.1, fun i hi => wpOp_mono (fun a' w' h' => by
      cases ht : tl i with
      | true => exact h'.1 ht
      | false => exact wpAny_of_T fuel _ a' w' (h'.2 ht).2) (h.2 i hi)⟩

theorem wpAnyT_mono {H' : World → Prop} (hH : ∀ w, H w → H' w) : ∀ (fuel : Nat) (listed : Array Bool) (a : Act) (w : World), wpAnyT P ops Q H tl fuel listed a w → wpAnyT P ops Q H' tl fuel listed a w
  | 0, _, _, _, h => h
  | fuel + 1, _, _, _, h => ⟨h.1, fun i hi => wpOp_mono (fun a' w' h' => ⟨h'.1, fun ht => ⟨hH _ (h'.2 ht).1, wpAnyT_mono hH fuel _ a' w' (h'.2 ht).2⟩⟩) (h.2 i hi)⟩

theorem wpAnyT_first {i : Nat} {oi : Oper} {v : Value} (hi : ops[i]? = some oi) (hsel : ∀ (j : Nat) (o : Oper) cs b, ops[j]? = some o → o.op ≠ .select cs b)
    (hQ : ∀ c a w, Q (.panic c) (a.put oi.dst v) w → Q (.panic c) a w)
    (hfree : ∀ j oj, ops[j]? = some oj → j ≠ i → Anc ops i j ∨ Anc ops j i ∨ oi.apart ops oj = true)
    (htl : ∀ j, tl j = true → j ≠ i → Anc ops i j ∨ Anc ops j i) :
    ∀ (fuel : Nat) (listed : Array Bool) (a : Act) (w : World), Down ops listed →
      i ∈ Region.ready .any ops listed → YieldsIf P ops H oi v a → H w →
      wpAnyT P ops Q H tl fuel (listed.setIfInBounds i true) (a.put oi.dst v) w → wpAnyT P ops Q H tl (fuel + 1) listed a w := by
  intro fuel
  have self : ∀ (fuel : Nat) (listed : Array Bool) (a : Act) (w : World), YieldsIf P ops H oi v a → H w → wpAnyT P ops Q H tl fuel (listed.setIfInBounds i true) (a.put oi.dst v) w →
      wpOp P ops Q i (fun a' w' => (tl i = true → wpAny P .any ops Q fuel (listed.setIfInBounds i true) a' w') ∧ (tl i = false → H w' ∧ wpAnyT P ops Q H tl fuel (listed.setIfInBounds i true) a' w')) a w :=
    fun fuel listed a w hy hS h => hy.wpOp hi hS ⟨fun _ => wpAny_of_T _ _ _ _ h, fun _ => ⟨hS, h⟩⟩
  have notdep : ∀ (listed : Array Bool) (j : Nat) (oj : Oper), Down ops listed → i ∈ Region.ready .any ops listed → j ∈ Region.ready .any ops listed → ops[j]? = some oj → j ≠ i →
      ¬ (∃ e ∈ oj.after, Region.binds .any e = true ∧ e.on = i) ∧ ¬ Anc ops i j ∧ ¬ Anc ops j i := by
    intro listed j oj hd hr hj hoj hne
    obtain ⟨hjun, oj', hoj', hallj⟩ := mem_ready.1 hj
    obtain ⟨hiun, oi', hoi', halli⟩ := mem_ready.1 hr
    have conv : ∀ k : Nat, listed.getD k true = false → listed.getD k false = false := by
      intro k hk
      rcases Nat.lt_or_ge k listed.size with h' | h'
      · simp [h'] at hk ⊢; exact hk
      · simp [Array.getElem?_eq_none h'] at hk ⊢
    rw [hoj] at hoj'; simp only [Option.some.injEq] at hoj'; subst hoj'
    rw [hi] at hoi'; simp only [Option.some.injEq] at hoi'; subst hoi'
    have h1 : ¬ Anc ops i j := fun ha => by
      have := anc_listed hd ha (fun o ho => by rw [hoj] at ho; simp only [Option.some.injEq] at ho; subst ho; exact hallj)
      rw [conv i hiun] at this; cases this
    have h2 : ¬ Anc ops j i := fun ha => by
      have := anc_listed hd ha (fun o ho => by rw [hi] at ho; simp only [Option.some.injEq] at ho; subst ho; exact halli)
      rw [conv j hjun] at this; cases this
    exact ⟨fun ⟨e, he, hb, hon⟩ => h1 (.one hoj he hb hon), h1, h2⟩
  induction fuel with
  | zero =>
    intro listed a w hd hr hy hS h
    refine ⟨fun h0 => (by rw [h0] at hr; cases hr), fun j hj => ?_⟩
    by_cases hji : j = i
    · subst hji; exact self 0 listed a w hy hS h
    · have := ready_mono hj hji
      rw [h.1] at this
      cases this
  | succ fuel ih =>
    intro listed a w hd hr hy hS h
    refine ⟨fun h0 => (by rw [h0] at hr; cases hr), fun j hj => ?_⟩
    by_cases hji : j = i
    · subst hji; exact self _ listed a w hy hS h
    · have h1 := h.2 j (ready_mono hj hji)
      obtain ⟨hjun, oj, hoj, hall⟩ := mem_ready.1 hj
      obtain ⟨hn1, hn2, hn3⟩ := notdep listed j oj hd hr hj hoj hji
      have hap : oi.apart ops oj = true := by
        rcases hfree j oj hoj hji with h | h | h
        · exact absurd h hn2
        · exact absurd h hn3
        · exact h
      have htlj : tl j = false := by
        cases ht : tl j with
        | false => rfl
        | true => rcases htl j ht hji with h | h
                  · exact absurd h hn2
                  · exact absurd h hn3
      have h2 := wpOp_putIf hoj hap (fun cs b => hsel i oi cs b hi) (fun cs b => hsel j oj cs b hoj) hQ hy h1
      refine wpOp_mono (fun a' w' h3 => ⟨fun ht => (by rw [htlj] at ht; cases ht), fun _ => ?_⟩) h2
      obtain ⟨hy', h4⟩ := h3
      obtain ⟨hS', h5⟩ := h4.2 htlj
      refine ⟨hS', ih (listed.setIfInBounds j true) a' w' (hd.set hj) (ready_mono hr (Ne.symm hji)) hy' hS' ?_⟩
      rw [Array.setIfInBounds_comm _ _ hji]
      exact h5


theorem wpAnyT_of : ∀ (fuel : Nat) (listed : Array Bool) (a : Act) (w : World), wpAny P .any ops Q fuel listed a w → wpAnyT P ops Q (fun _ => True) (fun _ => false) fuel listed a w
  | 0, _, _, _, h => h
  | fuel + 1, _, _, _, h => ⟨h.1, fun i hi => wpOp_mono (fun a' w' h' => ⟨nofun, fun _ => ⟨trivial, wpAnyT_of fuel _ a' w' h'⟩⟩) (h.2 i hi)⟩

/-- The same of an operation that yields its value in every world: what others write is no matter. -/
theorem wpAnyT_firstX {i : Nat} {oi : Oper} {v : Value} (hi : ops[i]? = some oi) (hsel : ∀ (j : Nat) (o : Oper) cs b, ops[j]? = some o → o.op ≠ .select cs b)
    (hQ : ∀ c a w, Q (.panic c) (a.put oi.dst v) w → Q (.panic c) a w)
    (hfree : ∀ j oj, ops[j]? = some oj → j ≠ i → Anc ops i j ∨ Anc ops j i ∨ oi.apart ops oj = true) :
    ∀ (fuel : Nat) (listed : Array Bool) (a : Act) (w : World), Down ops listed →
      i ∈ Region.ready .any ops listed → YieldsIf P ops (fun _ => True) oi v a → H w →
      wpAnyT P ops Q H tl fuel (listed.setIfInBounds i true) (a.put oi.dst v) w → wpAnyT P ops Q H tl (fuel + 1) listed a w := by
  intro fuel
  have toH : ∀ a, YieldsIf P ops (fun _ => True) oi v a → YieldsIf P ops H oi v a := fun a h => h.imp (fun ⟨h1, h2⟩ => ⟨h1, fun w _ => h2 w trivial⟩) id
  have any : ∀ (fuel : Nat) (listed : Array Bool) (a : Act) (w : World), Down ops listed → i ∈ Region.ready .any ops listed → YieldsIf P ops (fun _ => True) oi v a →
      wpAny P .any ops Q fuel (listed.setIfInBounds i true) (a.put oi.dst v) w → wpAny P .any ops Q (fuel + 1) listed a w := fun fuel listed a w hd hr hy h =>
    wpAny_of_T _ _ _ _ (wpAnyT_first (H := fun _ => True) (tl := fun _ => false) hi hsel hQ hfree (fun _ h => by cases h) fuel listed a w hd hr hy trivial (wpAnyT_of _ _ _ _ h))
  have self : ∀ (fuel : Nat) (listed : Array Bool) (a : Act) (w : World), YieldsIf P ops (fun _ => True) oi v a → H w → wpAnyT P ops Q H tl fuel (listed.setIfInBounds i true) (a.put oi.dst v) w →
      wpOp P ops Q i (fun a' w' => (tl i = true → wpAny P .any ops Q fuel (listed.setIfInBounds i true) a' w') ∧ (tl i = false → H w' ∧ wpAnyT P ops Q H tl fuel (listed.setIfInBounds i true) a' w')) a w :=
    fun fuel listed a w hy hS h => hy.wpOp hi trivial ⟨fun _ => wpAny_of_T _ _ _ _ h, fun _ => ⟨hS, h⟩⟩
  have notdep : ∀ (listed : Array Bool) (j : Nat) (oj : Oper), Down ops listed → i ∈ Region.ready .any ops listed → j ∈ Region.ready .any ops listed → ops[j]? = some oj → j ≠ i → oi.apart ops oj = true := by
    intro listed j oj hd hr hj hoj hne
    obtain ⟨hjun, oj', hoj', hallj⟩ := mem_ready.1 hj
    obtain ⟨hiun, oi', hoi', halli⟩ := mem_ready.1 hr
    have conv : ∀ k : Nat, listed.getD k true = false → listed.getD k false = false := by
      intro k hk
      rcases Nat.lt_or_ge k listed.size with h' | h'
      · simp [h'] at hk ⊢; exact hk
      · simp [Array.getElem?_eq_none h'] at hk ⊢
    rw [hoj] at hoj'; simp only [Option.some.injEq] at hoj'; subst hoj'
    rw [hi] at hoi'; simp only [Option.some.injEq] at hoi'; subst hoi'
    rcases hfree j oj hoj hne with ha | ha | ha
    · have := anc_listed hd ha (fun o ho => by rw [hoj] at ho; simp only [Option.some.injEq] at ho; subst ho; exact hallj)
      rw [conv i hiun] at this; cases this
    · have := anc_listed hd ha (fun o ho => by rw [hi] at ho; simp only [Option.some.injEq] at ho; subst ho; exact halli)
      rw [conv j hjun] at this; cases this
    · exact ha
  induction fuel with
  | zero =>
    intro listed a w hd hr hy hS h
    refine ⟨fun h0 => (by rw [h0] at hr; cases hr), fun j hj => ?_⟩
    by_cases hji : j = i
    · subst hji; exact self 0 listed a w hy hS h
    · have := ready_mono hj hji
      rw [h.1] at this
      cases this
  | succ fuel ih =>
    intro listed a w hd hr hy hS h
    refine ⟨fun h0 => (by rw [h0] at hr; cases hr), fun j hj => ?_⟩
    by_cases hji : j = i
    · subst hji; exact self _ listed a w hy hS h
    · have h1 := h.2 j (ready_mono hj hji)
      obtain ⟨hjun, oj, hoj, hall⟩ := mem_ready.1 hj
      have hap := notdep listed j oj hd hr hj hoj hji
      have h2 := wpOp_putIf hoj hap (fun cs b => hsel i oi cs b hi) (fun cs b => hsel j oj cs b hoj) hQ hy h1
      refine wpOp_mono (fun a' w' h3 => ⟨fun ht => ?_, fun ht => ?_⟩) h2
      · obtain ⟨hy', h4⟩ := h3
        refine any fuel (listed.setIfInBounds j true) a' w' (hd.set hj) (ready_mono hr (Ne.symm hji)) hy' ?_
        rw [Array.setIfInBounds_comm _ _ hji]
        exact h4.1 ht
      · obtain ⟨hy', h4⟩ := h3
        obtain ⟨hS', h5⟩ := h4.2 ht
        refine ⟨hS', ih (listed.setIfInBounds j true) a' w' (hd.set hj) (ready_mono hr (Ne.symm hji)) hy' hS' ?_⟩
        rw [Array.setIfInBounds_comm _ _ hji]
        exact h5

end
end Go.Ev
