/- A symbolic walk: regions in any order, code, loops, calls and what a function comes to; conditions: the table of types is the program's, and the program lets orders mix. -/
import Derived.Test.YtojhoeogikdjoaaGreatDoorEvCode
set_option linter.unusedSimpArgs false
set_option linter.unusedVariables false
namespace Go.Ev
open Go.RowKit

def getB : List Bool → Nat → Bool
  | [], _ => false
  | b :: _, 0 => b
  | _ :: l, n + 1 => getB l n
theorem getB_eq : ∀ (l : List Bool) (n : Nat), getB l n = l.toArray.getD n false
  | [], _ => by simp [getB]
  | b :: l, 0 => by simp [getB]
  | _ :: l, n + 1 => by
    rw [getB, getB_eq l n]
    simp [Array.getD_eq_getD_getElem?]
def setB : List Bool → Nat → (List Bool → Prop) → Prop
  | [], _, k => k []
  | _ :: l, 0, k => k (true :: l)
  | b :: l, n + 1, k => setB l n fun l => k (b :: l)
theorem setB_eq : ∀ (l : List Bool) (n : Nat) (k : List Bool → Prop), setB l n k = k (l.set n true)
  | [], _, _ => rfl
  | _ :: l, 0, _ => rfl
  | b :: l, n + 1, k => by simp only [setB]; rw [setB_eq l n]; rfl

/-- Are all that an operation waits for listed? -/
def okE (full : List Bool) : List Edge → Bool
  | [] => true
  | e :: es => match Region.binds .any e with
    | false => okE full es
    | true => match getB full e.on with
      | true => okE full es
      | false => false
theorem okE_iff (full : List Bool) : ∀ (es : List Edge), okE full es = true ↔ ∀ e ∈ es, Region.binds .any e = true → full.toArray.getD e.on false = true
  | [] => by simp [okE]
  | e :: es => by
    unfold okE
    cases hb : Region.binds .any e with
    | false => simp only [okE_iff full es]; simp [hb]
    | true =>
      simp only
      cases hg : getB full e.on with
      | true =>
        simp only [okE_iff full es]; rw [getB_eq] at hg
        exact ⟨fun h x hx hbx => by rcases List.mem_cons.1 hx with rfl | hx
                                    · exact hg
                                    · exact h x hx hbx, fun h x hx hbx => h x (List.mem_cons_of_mem _ hx) hbx⟩
      | false =>
        rw [getB_eq] at hg
        exact ⟨nofun, fun h => by have := h e (by simp) hb; rw [hg] at this; cases this⟩

def nextQ (full : List Bool) : List Oper → List Bool → Nat → Option (Nat × Oper)
  | o :: os, b :: bs, i => match b with
    | true => nextQ full os bs (i + 1)
    | false => match isQ o.op with
      | false => nextQ full os bs (i + 1)
      | true => match okE full o.after.toList with
        | true => some (i, o)
        | false => nextQ full os bs (i + 1)
  | _, _, _ => none

def readyN (full : List Bool) : List Oper → List Bool → Nat → List (Nat × Oper)
  | o :: os, b :: bs, i => match b with
    | true => readyN full os bs (i + 1)
    | false => match okE full o.after.toList with
      | true => (i, o) :: readyN full os bs (i + 1)
      | false => readyN full os bs (i + 1)
  | _, _, _ => []

theorem nextQ_sound {full : List Bool} : ∀ {os : List Oper} {bs : List Bool} {i : Nat} {r : Nat × Oper}, nextQ full os bs i = some r →
    ∃ k, r.1 = i + k ∧ os[k]? = some r.2 ∧ bs[k]? = some false ∧ isQ r.2.op = true ∧ okE full r.2.after.toList = true
  | [], _, _, _, h => by simp [nextQ] at h
  | _ :: _, [], _, _, h => by simp [nextQ] at h
  | o :: os, b :: bs, i, r, h => by
    unfold nextQ at h
    have step : nextQ full os bs (i + 1) = some r → ∃ k, r.1 = i + k ∧ (o :: os)[k]? = some r.2 ∧ (b :: bs)[k]? = some false ∧ isQ r.2.op = true ∧ okE full r.2.after.toList = true := fun h => by
      obtain ⟨k, h1, h2, h3, h4⟩ := nextQ_sound h
      exact ⟨k + 1, by omega, by simpa using h2, by simpa using h3, h4⟩
    split at h
    · exact step h
    · split at h
      · exact step h
      · split at h
        · simp only [Option.some.injEq] at h; subst h
          exact ⟨0, rfl, rfl, rfl, by assumption, by assumption⟩
        · exact step h

theorem readyN_mem {full : List Bool} : ∀ {os : List Oper} {bs : List Bool} {i : Nat} (k : Nat) (o : Oper), os[k]? = some o → bs[k]? = some false → okE full o.after.toList = true → (i + k, o) ∈ readyN full os bs i
  | [], _, _, _, _, h, _, _ => by simp at h
  | _ :: _, [], _, _, _, _, h, _ => by simp at h
  | o :: os, b :: bs, i, 0, o', h1, h2, h3 => by
    simp only [List.getElem?_cons_zero, Option.some.injEq] at h1 h2
    subst h1; subst h2
    unfold readyN
    simp only [h3]
    simp
  | o :: os, b :: bs, i, k + 1, o', h1, h2, h3 => by
    have := readyN_mem (full := full) (i := i + 1) k o' (by simpa using h1) (by simpa using h2) h3
    rw [show i + 1 + k = i + (k + 1) by omega] at this
    unfold readyN
    split
    · exact this
    · split
      · exact List.mem_cons_of_mem _ this
      · exact this

theorem readyN_sound {full : List Bool} : ∀ {os : List Oper} {bs : List Bool} {i : Nat} {r : Nat × Oper}, r ∈ readyN full os bs i →
    ∃ k, r.1 = i + k ∧ os[k]? = some r.2 ∧ bs[k]? = some false ∧ okE full r.2.after.toList = true
  | [], _, _, _, h => by simp [readyN] at h
  | _ :: _, [], _, _, h => by simp [readyN] at h
  | o :: os, b :: bs, i, r, h => by
    unfold readyN at h
    have step : r ∈ readyN full os bs (i + 1) → ∃ k, r.1 = i + k ∧ (o :: os)[k]? = some r.2 ∧ (b :: bs)[k]? = some false ∧ okE full r.2.after.toList = true := fun h => by
      obtain ⟨k, h1, h2, h3, h4⟩ := readyN_sound h
      exact ⟨k + 1, by omega, by simpa using h2, by simpa using h3, h4⟩
    split at h
    · exact step h
    · split at h
      · rename_i hok
        rcases List.mem_cons.1 h with rfl | h
        · exact ⟨0, rfl, rfl, rfl, hok⟩
        · exact step h
      · exact step h

noncomputable def conjL (p : Nat → Oper → Prop) (l : List (Nat × Oper)) : Prop :=
  match l with
  | [] => True
  | x :: xs => @List.rec (Nat × Oper) (fun _ => Nat × Oper → Prop) (fun x => p x.1 x.2) (fun y _ ih x => p x.1 x.2 ∧ ih y) xs x
theorem conjL_one (p : Nat → Oper → Prop) (x : Nat × Oper) : conjL p [x] = p x.1 x.2 := rfl
theorem conjL_two (p : Nat → Oper → Prop) (x y : Nat × Oper) (l : List (Nat × Oper)) : conjL p (x :: y :: l) = (p x.1 x.2 ∧ conjL p (y :: l)) := rfl
theorem conjL_mem {p : Nat → Oper → Prop} : ∀ {l : List (Nat × Oper)}, conjL p l → ∀ x ∈ l, p x.1 x.2
  | [], _, _, h => by cases h
  | [x], h, y, hy => by simp at hy; subst hy; exact h
  | x :: x' :: xs, h, y, hy => by
    rcases List.mem_cons.1 hy with rfl | hy
    · exact h.1
    · exact conjL_mem (l := x' :: xs) h.2 y hy

/-- One more of a region; 'ih' is what is left. -/
def evD1 (C : Ctx) (T : Tr) (ops : List Oper) (ms : List Nat) (ih : List Bool → St → (St → Prop) → Prop) (ls : List Bool) (S : St) (k : St → Prop) : Prop :=
  match nextQ ls ops ls 0 with
  | some (i, o) => setB ls i fun ls => guardK ops S o (fun S => evP C.P T S o.op fun r => putK S o.dst r fun S => ih ls S k) (fun S => putK S o.dst (.one (.v undef)) fun S => ih ls S k)
  | none => (match readyN ls ops ls 0 with
    | [] => k S
    | rs => conjL (fun i o => setB ls i fun ls => guardK ops S o
        (fun S => match cmpB ops ms ops.length i with
          | true => evN C T false S o fun S => ih ls S k
          | false => evN C T true S o fun S => ih ls S k)
        (fun S => putK S o.dst (.one (.v undef)) fun S => ih ls S k)) rs)
def evD0 (ops : List Oper) (ls : List Bool) (S : St) (k : St → Prop) : Prop :=
  match readyN ls ops ls 0 with
  | [] => k S
  | _ => False
/-- A region in any order: as many steps as the list 'fu' is long. -/
noncomputable def evD (C : Ctx) (T : Tr) (ops : List Oper) (ms : List Nat) (fu : List Oper) : List Bool → St → (St → Prop) → Prop :=
  @List.rec Oper (fun _ => List Bool → St → (St → Prop) → Prop) (evD0 ops) (fun _ _ ih => evD1 C T ops ms ih) fu

section
variable {C : Ctx} {T : Tr}

theorem Mod.congr {S S' : St} (h1 : S'.ns = S.ns) (h2 : S'.W = S.W) (h3 : S'.E = S.E) (h4 : S'.os = S.os) (h5 : S'.hs = S.hs) {w : World} (h : Mod C S w) : Mod C S' w := by
  obtain ⟨W, E, ns, hs, os, tm⟩ := S
  obtain ⟨W', E', ns', hs', os', tm'⟩ := S'
  simp only at h1 h2 h3 h4 h5
  subst h1; subst h2; subst h3; subst h4; subst h5
  exact h.tm tm'

def Closed (H : World → Prop) : Prop := ∀ w w', H w → Below w.heap.size w w' → H w'

theorem ready_lists {ops : List Oper} {ls : List Bool} (hl : ls.length = ops.length) {j : Nat} (hj : j ∈ Region.ready .any ops.toArray ls.toArray) :
    ∃ o, ops[j]? = some o ∧ ls[j]? = some false ∧ okE ls o.after.toList = true := by
  obtain ⟨h1, o, h2, h3⟩ := mem_ready.1 hj
  have h2' : ops[j]? = some o := by simpa using h2
  have hlt : j < ls.length := by rw [hl]; exact (List.getElem?_eq_some_iff.1 h2').1
  refine ⟨o, h2', ?_, (okE_iff ls _).2 fun e he hb => h3 e (Array.mem_toList_iff.1 he) hb⟩
  have : ls.toArray.getD j true = ls[j] := by simp [hlt]
  rw [this] at h1
  rw [List.getElem?_eq_getElem hlt, h1]

theorem lists_ready {ops : List Oper} {ls : List Bool} {j : Nat} {o : Oper} (ho : ops[j]? = some o) (hl : ls[j]? = some false) (hok : okE ls o.after.toList = true) : j ∈ Region.ready .any ops.toArray ls.toArray := by
  refine mem_ready.2 ⟨?_, o, by simpa using ho, fun e he hb => (okE_iff ls _).1 hok e (Array.mem_toList_iff.2 he) hb⟩
  obtain ⟨hlt, e⟩ := List.getElem?_eq_some_iff.1 hl
  simp [hlt, e]

theorem evD_sound {ops : List Oper} {Q : Exit → Act → World → Prop} (hT : T.OK C.P) (hreg : regB ops = true) (hQp : ∀ c a w, ¬ Q (.panic c) a w) {k : St → Prop}
    (hQ : ∀ S' a' w', k S' → Sim S' a' → Mod C S' w' → Q .normal a' w') :
    ∀ (fu : List Oper) (ls : List Bool) (S : St), evD C T ops (masks ops) fu ls S k → ls.length = ops.length → Down ops.toArray ls.toArray →
      ∀ (H : World → Prop), Closed H → (∀ w, H w → Mod C S w) → ∀ a w, Sim S a → H w →
        wpAnyT C.P ops.toArray Q H (cmpB ops (masks ops) ops.length) fu.length ls.toArray a w := by
  obtain ⟨hns, hpairs⟩ := regB_sound hreg
  have hcmp : ∀ i j, cmpB ops (masks ops) ops.length j = true → i < ops.length → j ≠ i → isXi ops i = false → Anc ops.toArray i j ∨ Anc ops.toArray j i := by
    intro i j hc hi hne hx
    unfold cmpB at hc
    simp only [List.all_eq_true, List.mem_range, Bool.or_eq_true, beq_iff_eq] at hc
    rcases hc i hi with ((h | h) | h) | h
    · exact absurd h.symm hne
    · exact .inl (masks_sound h)
    · exact .inr (masks_sound h)
    · rw [hx] at h; cases h
  have hdone : ∀ (ls : List Bool) (S : St), readyN ls ops ls 0 = [] → ls.length = ops.length → k S → ∀ a w, Sim S a → Mod C S w → Region.ready .any ops.toArray ls.toArray = [] ∧ Q .normal a w := by
    intro ls S hr hl hk a w hs hm
    refine ⟨?_, hQ S a w hk hs hm⟩
    cases hrd : Region.ready .any ops.toArray ls.toArray with
    | nil => rfl
    | cons j rest =>
      obtain ⟨o, h1, h2, h3⟩ := ready_lists hl (j := j) (by rw [hrd]; simp)
      have := readyN_mem (full := ls) (i := 0) j o h1 h2 h3
      rw [hr] at this; cases this
  intro fu
  induction fu with
  | nil =>
    intro ls S h hl hd H hcl hH a w hs hw
    have h : evD0 ops ls S k := h
    unfold evD0 at h
    split at h
    · rename_i hr; exact hdone ls S hr hl h a w hs (hH w hw)
    · cases h
  | cons o0 n ih =>
    intro ls S h hl hd H hcl hH a w hs hw
    have h : evD1 C T ops (masks ops) (evD C T ops (masks ops) n) ls S k := h
    unfold evD1 at h
    split at h
    · rename_i i o hq
      obtain ⟨k', e1, ho, hb, hiq, hok⟩ := nextQ_sound hq
      simp only [Nat.zero_add] at e1
      subst e1
      rw [setB_eq] at h
      have hrd := lists_ready ho hb hok
      have hlt : i < ops.length := (List.getElem?_eq_some_iff.1 ho).1
      have hset : (ls.set i true).toArray = ls.toArray.setIfInBounds i true := by simp
      obtain ⟨S', hs', hm', e1, e2, e3, e4, e5, hor⟩ := guardK_sound h hs (hH w hw)
      have hH' : ∀ w, H w → Mod C S' w := fun w hw => (hH w hw).congr e1 e2 e3 e4 e5
      have key : ∀ (y : Value) (r : AV), YieldsIf C.P ops.toArray H o y a → r.R S'.ns y → putK S' o.dst r (fun S => evD C T ops (masks ops) n (ls.set i true) S k) →
          wpAnyT C.P ops.toArray Q H (cmpB ops (masks ops) ops.length) (n.length + 1) ls.toArray a w := by
        intro y r hy hr hk
        rw [putK_eq] at hk
        have fin := ih (ls.set i true) _ hk (by rw [List.length_set]; exact hl) (by rw [hset]; exact hd.set hrd) H hcl (fun w hw => (hH' w hw).put _ _) _ w (hs'.put hr) hw
        rw [hset] at fin
        cases hx : isX o.op with
        | true =>
          refine wpAnyT_firstX (i := i) (oi := o) (v := y) (by simpa using ho) (Region.noSelect_spec hns) (fun c a w h => absurd h (hQp c _ w)) (fun j oj hj hne => hpairs i j o oj ho (by simpa using hj) hne) n.length ls.toArray a w hd hrd ?_ hw fin
          rcases hy with ⟨h1, h2⟩ | h2
          · exact .inl ⟨h1, fun w' _ => isX_any hx (h2 w hw) w'⟩
          · exact .inr h2
        | false =>
        refine wpAnyT_first (i := i) (oi := o) (v := y) (by simpa using ho) (Region.noSelect_spec hns) (fun c a w h => absurd h (hQp c _ w)) ?_ ?_ n.length ls.toArray a w hd hrd hy hw ?_
        · intro j oj hj hne
          exact hpairs i j o oj ho (by simpa using hj) hne
        · intro j hj hne; exact hcmp i j hj hlt hne (by rw [isXi_get ho]; exact hx)
        · exact fin
      rcases hor with ⟨hwn, h1⟩ | ⟨hwn, h1⟩
      · obtain ⟨r, hqr, hk⟩ := evP_sound (C := C) hT h1
        obtain ⟨y, hy, hr⟩ := hqr a hs'
        exact key y r (.inl ⟨hwn, fun w hw => hr w (hH' w hw)⟩) hy hk
      · exact key undef (.one (.v undef)) (.inr ⟨hwn, rfl⟩) rfl h1
    · split at h
      · rename_i hr
        obtain ⟨h1, h2⟩ := hdone ls S hr hl h a w hs (hH w hw)
        exact ⟨fun _ => h2, by rw [h1]; simp⟩
      · rename_i hne
        refine ⟨fun h0 => ?_, fun j hj => ?_⟩
        · exfalso
          cases hrs : readyN ls ops ls 0 with
          | nil => exact hne hrs
          | cons x xs =>
            obtain ⟨j, _, ho, hb, hok⟩ := readyN_sound (r := x) (by rw [hrs]; simp)
            have := lists_ready ho hb hok
            rw [h0] at this; cases this
        · obtain ⟨o, ho, hb, hok⟩ := ready_lists hl hj
          have hp := conjL_mem h (0 + j, o) (readyN_mem j o ho hb hok)
          simp only [Nat.zero_add, setB_eq] at hp
          have hset : (ls.set j true).toArray = ls.toArray.setIfInBounds j true := by simp
          obtain ⟨S', hs', hm', e1, e2, e3, e4, e5, hor⟩ := guardK_sound hp hs (hH w hw)
          have hH' : ∀ w, H w → Mod C S' w := fun w hw => (hH w hw).congr e1 e2 e3 e4 e5
          have hd' : Down ops.toArray (ls.set j true).toArray := by rw [hset]; exact hd.set hj
          have hl' : (ls.set j true).length = ops.length := by rw [List.length_set]; exact hl
          have fin : ∀ (S2 : St) (a2 : Act) (w2 : World), (cmpB ops (masks ops) ops.length j = false → Below w.heap.size w w2) → evD C T ops (masks ops) n (ls.set j true) S2 k → Sim S2 a2 → Mod C S2 w2 →
              (cmpB ops (masks ops) ops.length j = true → wpAny C.P .any ops.toArray Q n.length (ls.toArray.setIfInBounds j true) a2 w2) ∧
              (cmpB ops (masks ops) ops.length j = false → H w2 ∧ wpAnyT C.P ops.toArray Q H (cmpB ops (masks ops) ops.length) n.length (ls.toArray.setIfInBounds j true) a2 w2) := by
            intro S2 a2 w2 hbel hk2 hs2 hm2
            rw [← hset]
            refine ⟨fun _ => wpAny_of_T n.length _ a2 w2 (ih _ S2 hk2 hl' hd' (Mod C S2) (fun _ _ h hb => h.below hb) (fun _ h => h) a2 w2 hs2 hm2), fun hc => ?_⟩
            have hw2 := hcl w w2 hw (hbel hc)
            exact ⟨hw2, wpAnyT_mono (fun _ h => h.1) n.length _ a2 w2 (ih _ S2 hk2 hl' hd' (fun x => H x ∧ Mod C S2 x) (fun _ _ h hb => ⟨hcl _ _ h.1 hb, h.2.below hb⟩) (fun _ h => h.2) a2 w2 hs2 ⟨hw2, hm2⟩)⟩
          have ho' : ops.toArray[j]? = some o := by simpa using ho
          unfold wpOp
          simp only [ho']
          rcases hor with ⟨hwn, h1⟩ | ⟨hwn, h1⟩
          · rw [if_pos hwn]
            left
            split at h1
            · rename_i hc
              refine Oper.wp_mono ?_ (evN_sound hT h1 a w hs' hm' Q)
              rintro a2 w2 ⟨_, S2, h3, h4, h5⟩
              exact fin S2 a2 w2 (fun h => by rw [hc] at h; cases h) h3 h4 h5
            · rename_i hc
              refine Oper.wp_mono ?_ (evN_sound hT h1 a w hs' hm' Q)
              rintro a2 w2 ⟨hbel, S2, h3, h4, h5⟩
              exact fin S2 a2 w2 (fun _ => hbel rfl) h3 h4 h5
          · rw [if_neg (by rw [hwn]; simp)]
            obtain ⟨S2, h3, h4, h5⟩ := putK_sim h1 hs' hm' (y := undef) rfl
            exact fin S2 _ w (fun _ => Below.refl _ _) h3 h4 h5


/-! ### code -/
structure LoopVC (C : Ctx) (T : Tr) (body : Code) (S : St) (K : Exit → St → Prop) : Prop where
  go : EV C (.loop body) S K
structure CodeVC (C : Ctx) (T : Tr) (c : Code) (S : St) (K : Exit → St → Prop) : Prop where
  go : EV C c S K

/-- No two operations of a region that may change places touch each other's slots. -/
structure RegOK (ops : List Oper) : Prop where
  go : regB ops = true

def falsesK : List Oper → (List Bool → Prop) → Prop
  | [], k => k []
  | _ :: l, k => falsesK l fun ls => k (false :: ls)
theorem falsesK_eq : ∀ (l : List Oper) (k : List Bool → Prop), falsesK l k = k (List.replicate l.length false)
  | [], _ => rfl
  | _ :: l, k => by simp only [falsesK]; rw [falsesK_eq l]; rfl

/-- Numbers handed on reckoned. -/
def natK (n : Nat) (k : Nat → Prop) : Prop :=
  match n with
  | 0 => k 0
  | m + 1 => k (m + 1)
theorem natK_eq (n : Nat) (k : Nat → Prop) : natK n k = k n := by cases n <;> rfl
def natsK : List Nat → (List Nat → Prop) → Prop
  | [], k => k []
  | n :: l, k => natK n fun n => natsK l fun l => k (n :: l)
theorem natsK_eq : ∀ (l : List Nat) (k : List Nat → Prop), natsK l k = k l
  | [], _ => rfl
  | n :: l, k => by simp only [natsK, natK_eq]; rw [natsK_eq l]
def masksK : List Oper → List Nat → (List Nat → Prop) → Prop
  | [], acc, k => k acc
  | o :: os, acc, k => natK (maskOf acc o.after.toList) fun n => snocN acc n fun acc => masksK os acc k
theorem masksK_eq : ∀ (os : List Oper) (acc : List Nat) (k : List Nat → Prop), masksK os acc k = k (masksFrom os acc)
  | [], _, _ => rfl
  | o :: os, acc, k => by simp only [masksK, natK_eq, snocN_eq]; rw [masksK_eq os]; rfl

/-- What is to be shown for a piece of code (by the recursor itself). -/
noncomputable def ev (C : Ctx) (T : Tr) (c : Code) : St → (Exit → St → Prop) → Prop :=
  @Code.rec (fun _ => St → (Exit → St → Prop) → Prop)
    (fun S K => K .normal S)
    (fun _ ops draw S K => match draw with
      | false => evL C T ops.toList ops.toList S (K .normal)
      | true => RegOK ops.toList ∧ masksK ops.toList [] fun ms => falsesK ops.toList fun ls => evD C T ops.toList ms ops.toList ls S (K .normal))
    (fun _ _ ihx ihy S K => ihx S (thenK K fun S => ihy S K))
    (fun c _ _ ihx ihy S K => opK S.tm c fun a => (match a with
      | .one .tt => ihx S K
      | .one .ff => ihy S K
      | .one (.v (.bool b)) => (b = true → ihx S K) ∧ (b = false → ihy S K)
      | _ => False))
    (fun id _ ih S K => ih S (blockK id K))
    (fun body _ S K => LoopVC C T body S K)
    (fun f ps a b _ _ S K => CodeVC C T (.rangeFunc f ps a b) S K)
    (fun id S K => K (.exit id) S)
    (fun b _ S K => CodeVC C T (.scope b) S K)
    (fun _ S K => K .normal S)
    (fun l S K => CodeVC C T (.goto l) S K)
    (fun S K => K .ret S)
    (fun why S K => CodeVC C T (.refuse why) S K) c

theorem ev_sound (hT : T.OK C.P) (hmix : C.P.follows .mixedOrders = true) : ∀ (c : Code) (S : St) (K : Exit → St → Prop), ev C T c S K → EV C c S K := by
  intro c
  induction c with
  | skip => exact fun S K h => EV.skip h
  | label l => exact fun S K h => EV.label h
  | ret => exact fun S K h => EV.ret h
  | exit id => exact fun S K h => EV.exit h
  | seq x y ihx ihy =>
    intro S K h
    refine EV.seq (EV.mono (ihx S _ h) fun e S' h => ?_)
    cases e with
    | normal => exact ihy S' K h
    | _ => exact h
  | cond c x y ihx ihy =>
    intro S K h
    have h : opK S.tm c fun a => (match a with
      | .one .tt => ev C T x S K
      | .one .ff => ev C T y S K
      | .one (.v (.bool b)) => (b = true → ev C T x S K) ∧ (b = false → ev C T y S K)
      | _ => False) := h
    rw [opK_eq] at h
    split at h
    · rename_i e; exact EV.cond (t := true) (fun a hs => R_tt (opA_R hs c) e) (fun _ => ihx S K h) nofun
    · rename_i e; exact EV.cond (t := false) (fun a hs => R_ff (opA_R hs c) e) nofun (fun _ => ihy S K h)
    · rename_i b e; exact EV.cond (t := b) (fun a hs => R_v (opA_R hs c) e) (fun hb => ihx S K (h.1 hb)) (fun hb => ihy S K (h.2 hb))
    · cases h
  | block id c ih => exact fun S K h => EV.block (ih S _ h)
  | loop body ih => exact fun S K h => h.go
  | region id ops draw =>
    intro S K h a w hs hm
    cases draw with
    | false =>
      refine wp_region_list ?_
      have := evL_sound (C := C) (ops := ops.toList) (Q := fun e a' w' => ∃ S', K e S' ∧ Sim S' a' ∧ Mod C S' w') hT h (fun S' a' w' h1 h2 h3 => ⟨S', h1, h2, h3⟩) hs hm
      simpa using this
    | true =>
      obtain ⟨hreg, h⟩ := h
      rw [masksK_eq, falsesK_eq] at h
      refine wp_mono (Q := fun e a' w' => match e with
        | .panic _ => False
        | e => ∃ S', K e S' ∧ Sim S' a' ∧ Mod C S' w') ?_ ?_
      · refine wp_region_any hmix ?_
        have hl : (List.replicate ops.toList.length false).length = ops.toList.length := by simp
        have := evD_sound (C := C) (ops := ops.toList) (Q := fun e a' w' => match e with
          | .panic _ => False
          | e => ∃ S', K e S' ∧ Sim S' a' ∧ Mod C S' w') hT hreg.go (fun _ _ _ h => h) (fun S' a' w' h1 h2 h3 => ⟨S', h1, h2, h3⟩) ops.toList (List.replicate ops.toList.length false) S h hl
          (fun j o hj => by simp [Array.getD_eq_getD_getElem?] at hj; rw [Array.getElem?_replicate] at hj; split at hj <;> cases hj)
          (Mod C S) (fun _ _ h hb => h.below hb) (fun _ h => h) a { w with drawn := w.drawn + 1 } hs (hm.drawn _)
        have h2 := wpAny_of_T _ _ _ _ this
        simpa using h2
      · intro e a' w' h
        cases e with
        | panic c => exact h.elim
        | _ => exact h
  | rangeFunc f params assign body _ _ => exact fun S K h => h.go
  | scope body _ => exact fun S K h => h.go
  | goto l => exact fun S K h => h.go
  | refuse why => exact fun S K h => h.go

/-! ### what a function comes to -/
def resK (C : Ctx) (T : Tr) (S : St) : List ResultVar → (List Value → Prop) → Prop
  | [], k => k []
  | .tmp t :: rs, k => getK S.tm t fun a => avK S.ns a fun v => resK C T S rs fun vs => k (v :: vs)
  | .cell p t :: rs, k => getK S.tm p fun a => loadK T S t a fun r => avK S.ns r fun v => resK C T S rs fun vs => k (v :: vs)

/-- What is left at a function's end: its answer, and what became of the world. -/
structure RetVC (C : Ctx) (S : St) (v : Value) (R : Value → World → Prop) : Prop where
  go : ∀ w, Mod C S w → R v w

def retV (C : Ctx) (S : St) (R : Value → World → Prop) (vs : List Value) : Prop :=
  match vs with
  | [v] => RetVC C S v R
  | vs => RetVC C S (.tuple vs.toArray) R

def retK (C : Ctx) (T : Tr) (rs : List ResultVar) (R : Value → World → Prop) : Exit → St → Prop
  | .ret, S => resK C T S rs (retV C S R)
  | .normal, S => resK C T S rs (retV C S R)
  | _, _ => False

theorem resK_sound (hT : T.OK C.P) {S : St} : ∀ {rs : List ResultVar} {k : List Value → Prop}, resK C T S rs k →
    ∃ vs, k vs ∧ vs.length = rs.length ∧ ∀ a w, Sim S a → Mod C S w → (rs.mapM (fun
      | .tmp t => pure (a.tmps.getD t undef)
      | .cell p t => do loadVar t (← asAddr (a.tmps.getD p undef)) : ResultVar → Sem Value)).run C.P w = .ok vs w
  | [], k, h => ⟨[], h, rfl, fun _ _ _ _ => rfl⟩
  | .tmp t :: rs, k, h => by
    simp only [resK, getK_eq] at h
    obtain ⟨v, h, hv⟩ := avK_sound h
    obtain ⟨vs, h, hl, hvs⟩ := resK_sound hT h
    refine ⟨v :: vs, h, by simp [hl], fun a w hs hm => ?_⟩
    rw [List.mapM_cons]
    have e : a.tmps.getD t undef = v := hv _ (opA_R hs (.tmp t))
    rw [run_bind (show (pure (a.tmps.getD t undef) : Sem Value).run C.P w = .ok v w from by rw [e]; rfl)]
    rw [run_bind (hvs a w hs hm)]; rfl
  | .cell p t :: rs, k, h => by
    simp only [resK, getK_eq] at h
    obtain ⟨r, h, hr⟩ := loadK_sound (C := C) hT h
    obtain ⟨v, h, hv⟩ := avK_sound h
    obtain ⟨vs, h, hl, hvs⟩ := resK_sound hT h
    refine ⟨v :: vs, h, by simp [hl], fun a w hs hm => ?_⟩
    rw [List.mapM_cons]
    obtain ⟨ad, hp, y, hy, hrun⟩ := hr _ (opA_R hs (.tmp p))
    have hp' : a.tmps.getD p undef = .pointer (some ad) := hp
    rw [run_bind (a := v) (w' := w)]
    · rw [run_bind (hvs a w hs hm)]; rfl
    · simp only [hp']
      rw [run_bind (show (asAddr (.pointer (some ad))).run C.P w = .ok ad w from rfl), hrun w hm, hv y hy]

/-- What a function's call comes to. -/
def Ct (P : Program) (f : FuncId) (args : List Value) (w : World) (R : Value → World → Prop) : Prop :=
  (∀ w', (callFunc f args.toArray).run P w' = .ok (.enter f args.toArray) w') ∧ Calls P f args.toArray w fun e w' => ∃ v, e = .returned v ∧ R v w'

theorem Ct.mono {P : Program} {f : FuncId} {args : List Value} {w : World} {R R' : Value → World → Prop} (h : Ct P f args w R) (hr : ∀ v w, R v w → R' v w) : Ct P f args w R' :=
  ⟨h.1, Calls.mono h.2 fun e w' ⟨v, h1, h2⟩ => ⟨v, h1, hr _ _ h2⟩⟩

theorem callFunc_enter {P : Program} {f : FuncId} {fn : Func} {c : Code} (hf : P.funcs[f]? = some fn) (hn : (fn.name == "runtime.NumGoroutine") = false) (hb : fn.body = some c) (args : Array Value) (w : World) :
    (callFunc f args).run P w = .ok (.enter f args) w := by
  unfold callFunc
  show Sem.run P (program >>= _) w = _
  rw [run_bind (show program.run P w = .ok P w from rfl)]
  simp only [hf, hn, hb]
  rfl

def undefs : Nat → List AV
  | 0 => []
  | n + 1 => .one (.v undef) :: undefs n
theorem undefs_eq : ∀ n, undefs n = List.replicate n (.one (.v undef))
  | 0 => rfl
  | n + 1 => by simp [undefs, undefs_eq n, List.replicate_succ]
def argAVs : List Value → Nat → List AV
  | [], n => undefs n
  | v :: vs, n + 1 => ofVal v :: argAVs vs n
  | v :: vs, 0 => ofVal v :: argAVs vs 0
theorem argAVs_R (ns : List Nat) : ∀ (vs : List Value) (n : Nat), TR ns (argAVs vs n) (vs ++ List.replicate (n - vs.length) undef)
  | [], n => by
    simp only [argAVs, undefs_eq, List.nil_append, List.length_nil, Nat.sub_zero]
    induction n with
    | zero => trivial
    | succ n ih => exact ⟨rfl, ih⟩
  | v :: vs, n + 1 => by
    simp only [argAVs, List.cons_append, List.length_cons, Nat.add_sub_add_right]
    exact ⟨ofVal_R ns v, argAVs_R ns vs n⟩
  | v :: vs, 0 => by
    simp only [argAVs, List.cons_append, List.length_cons, Nat.zero_sub]
    have := argAVs_R ns vs 0
    rw [Nat.zero_sub] at this
    exact ⟨ofVal_R ns v, this⟩

/-- A function's call, from what is to be shown for its body: `ns`, `hs` are the blocks that it owns at the begin. -/
theorem ct_of_ev' {P : Program} {T : Tr} {f : FuncId} {fn : Func} {c : Code} {args : List Value} {w : World} {R : Value → World → Prop} (hT : T.OK P) (hmix : P.follows .mixedOrders = true)
    (hf : P.funcs[f]? = some fn) (hn : (fn.name == "runtime.NumGoroutine") = false) (hb : fn.body = some c) (M X : Nat → Prop) (S : St)
    (ht : TR S.ns S.tm (args ++ List.replicate (fn.ntmps - args.length) undef)) (hm : Mod ⟨P, w, M, X⟩ S w)
    (h : ev ⟨P, w, M, X⟩ T c S (retK ⟨P, w, M, X⟩ T fn.results.toList R)) : Ct P f args w R := by
  refine ⟨callFunc_enter hf hn hb _, ?_⟩
  have h1 := ev_sound (C := ⟨P, w, M, X⟩) hT hmix c _ _ h { tmps := args.toArray ++ Array.replicate (fn.ntmps - args.toArray.size) undef, defers := [] } w
    ⟨rfl, by simpa using ht⟩ hm
  refine calls_of_wp hf hb (wp_mono h1 ?_)
  rintro e a' w' ⟨S', hk, hs, hm⟩
  have fin : resK ⟨P, w, M, X⟩ T S' fn.results.toList (retV ⟨P, w, M, X⟩ S' R) → a'.defers = [] ∧ ∃ v, (results fn a'.tmps).run P w' = .ok v w' ∧ ∃ v', Ending.returned v = .returned v' ∧ R v' w' := by
    intro hk
    obtain ⟨vs, hk, hlen, hrun⟩ := resK_sound (C := ⟨P, w, M, X⟩) hT hk
    refine ⟨hs.d, ?_⟩
    have hr := run_mapM_toArray (hrun a' w' hs hm)
    dsimp only at hr
    unfold results
    have hr2 := run_bind (f := fun vs : Array Value => (pure (if h : vs.size = 1 then vs[0] else .tuple vs) : Sem Value)) hr
    match vs, hk, hr2 with
    | [], hk, hr2 => exact ⟨_, hr2, _, rfl, hk.go w' hm⟩
    | [v], hk, hr2 => exact ⟨_, hr2, _, rfl, hk.go w' hm⟩
    | v :: v' :: vs, hk, hr2 => exact ⟨_, hr2, _, rfl, hk.go w' hm⟩
  cases e with
  | normal => exact fin hk
  | ret => exact fin hk
  | _ => exact hk.elim

/-- The begin of a function: the blocks `ns` are its own, and what `os` says. -/
theorem Mod.start (P : Program) (w : World) (M X : Nat → Prop) (ns : List Nat) (hs : List HB) (os : List OP) (tm : List AV) (hlen : ns.length = hs.length) (hnd : ns.Nodup) (hX : ∀ n, n ∈ ns → X n ∧ M n)
    (hb : ∀ t b, hs[t]? = some b → ∃ o, w.heap[ns.getD t 0]? = some o ∧ b.At ns o) (ho : ∃ fp, Osc os fp w fun b => b ∉ ns ∧ X b ∧ M b) : Mod ⟨P, w, M, X⟩ ⟨w, fun b => X b ∧ b < w.heap.size, ns, hs, os, tm⟩ w where
  g := ⟨rfl, rfl, rfl, Nat.le_refl _, fun _ _ _ => rfl⟩
  le0 := Nat.le_refl _
  size := Nat.le_refl _
  old := fun _ _ _ _ => rfl
  len := hlen
  blk := hb
  nodup := hnd
  sep := fun n hn => by
    refine .inl ⟨(hX n hn).1, ?_⟩
    obtain ⟨t, ht, e⟩ := List.getElem_of_mem hn
    obtain ⟨o, hc, _⟩ := hb t (hs[t]'(by have ht : t < ns.length := ht; omega)) (List.getElem?_eq_getElem _)
    rw [getD_of (by rw [List.getElem?_eq_getElem ht, e])] at hc
    exact (Array.getElem?_eq_some_iff.1 hc).1
  own := fun n hn => .inr (hX n hn).2
  exb := fun b hb => hb.2
  base := fun b h1 h2 => ⟨h2, h1⟩
  osc := by
    obtain ⟨fp, ho⟩ := ho
    exact ⟨fp, ho.same (fun _ _ _ => rfl) (Nat.le_refl _) fun b hb hq => ⟨hq.1, .inl ⟨hq.2.1, hb⟩, .inr hq.2.2⟩⟩

def forceT : List AV → (List AV → Prop) → Prop
  | [], k => k []
  | a :: l, k => force a fun a => forceT l fun l => k (a :: l)
theorem forceT_eq : ∀ (l : List AV) (k : List AV → Prop), forceT l k = k l
  | [], _ => rfl
  | a :: l, k => by simp only [forceT, force_eq]; rw [forceT_eq l]

/-- The same, with the slots laid out. -/
theorem ct_of_ev {P : Program} {T : Tr} {f : FuncId} {fn : Func} {c : Code} {args : List Value} {w : World} {R : Value → World → Prop} (hT : T.OK P) (hmix : P.follows .mixedOrders = true)
    (hf : P.funcs[f]? = some fn) (hn : (fn.name == "runtime.NumGoroutine") = false) (hb : fn.body = some c) (X : Nat → Prop)
    (h : forceT (argAVs args fn.ntmps) fun tm => ev ⟨P, w, fun _ => False, X⟩ T c ⟨w, fun b => X b ∧ b < w.heap.size, [], [], [], tm⟩ (retK ⟨P, w, fun _ => False, X⟩ T fn.results.toList R)) : Ct P f args w R := by
  rw [forceT_eq] at h
  exact ct_of_ev' hT hmix hf hn hb _ _ _ (argAVs_R [] args fn.ntmps) (Mod.start P w _ X [] [] [] _ rfl List.nodup_nil (by simp) (by simp) ⟨fun _ _ => False, by simp [Osc]⟩) h

end
end Go.Ev
