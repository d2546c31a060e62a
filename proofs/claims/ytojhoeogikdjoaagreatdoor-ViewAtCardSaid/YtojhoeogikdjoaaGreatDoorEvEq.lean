/- A symbolic walk: '==' of structs of plain fields, and maps with such keys; conditions: of the types by computation. -/
import Derived.Test.YtojhoeogikdjoaaGreatDoorEvRow
set_option linter.unusedSimpArgs false
set_option linter.unusedVariables false
namespace Go.Ev
open Go.RowKit

inductive SK where
  | i (k : IntKind)
  | b
  | t
def skOf (P : Program) (t : TypeId) : Option SK :=
  match P.underlying t with
  | some (.int k) => some (.i k)
  | some .bool => some .b
  | some .string => some .t
  | _ => none
def flatF (P : Program) : List Field → Nat → Option (List SK)
  | [], _ => some []
  | f :: fs, i => match f.name == "_", Nat.beq f.offset i, skOf P f.type, flatF P fs (i + 1) with
    | false, true, some s, some r => some (s :: r)
    | _, _, _, _ => none
def flatK (P : Program) (t : TypeId) : Option (List SK) :=
  match P.underlying t with
  | some (.struct fs) => match P.stoodInHeld t, P.eqGuardType P.depth t with
    | false, false => flatF P fs.toList 0
    | _, _ => none
  | _ => none
def fit1 : SK → Value → Bool
  | .i k, .int k' _ => k == k'
  | .b, .bool _ => true
  | .t, .string _ => true
  | _, _ => false
def fitB : List SK → List Value → Bool
  | [], [] => true
  | k :: ks, v :: vs => match fit1 k v with
    | true => fitB ks vs
    | false => false
  | _, _ => false
def eqv1 : Value → Value → Bool
  | .int _ a, .int _ b => a == b
  | .bool a, .bool b => a == b
  | .string a, .string b => a == b
  | _, _ => false
def eqvL : List Value → List Value → Bool
  | [x], [y] => eqv1 x y
  | x :: xs, y :: ys => eqv1 x y && eqvL xs ys
  | _, _ => true

theorem run_part1 {P : Program} {w : World} {t : TypeId} {cs : Array Value} {off : Nat} {v : Value} {s : SK} (hs : skOf P t = some s) (hv : cs[off]? = some v) : (part t cs off).run P w = .ok v w := by
  unfold skOf at hs
  have : ∃ d, P.underlying t = some d ∧ (match d with | .struct _ => true | .array _ _ => true | _ => false) = false := by
    split at hs <;> first | exact ⟨_, by assumption, rfl⟩ | cases hs
  obtain ⟨d, hd, hagg⟩ := this
  unfold part
  rw [run_bind (run_isAgg hd)]
  cases d <;> simp_all [aggB]

theorem run_eq1 {P : Program} {w : World} {d : Nat} {t : TypeId} {s : SK} {x y : Value} (hs : skOf P t = some s) (hx : fit1 s x = true) (hy : fit1 s y = true) : (Op.equalIn (d + 1) t x y).run P w = .ok (eqv1 x y) w := by
  unfold skOf at hs
  split at hs
  · rename_i k hu
    simp only [Option.some.injEq] at hs; subst hs
    cases x <;> simp [fit1] at hx
    cases y <;> simp [fit1] at hy
    subst hx; subst hy
    exact run_equalIn_int w d t _ k _ _ hu
  · rename_i hu
    simp only [Option.some.injEq] at hs; subst hs
    cases x <;> simp [fit1] at hx
    cases y <;> simp [fit1] at hy
    exact run_equalIn_bool' w d t _ _ hu
  · rename_i hu
    simp only [Option.some.injEq] at hs; subst hs
    cases x <;> simp [fit1] at hx
    cases y <;> simp [fit1] at hy
    rw [run_equalIn_string w d t _ _ hu, ← beq_toListBytes]; rfl
  · cases hs

theorem run_eqFields {P : Program} {w : World} {d : Nat} : ∀ {fs : List Field} {ks : List SK} {px py xs ys : List Value}, flatF P fs px.length = some ks → px.length = py.length → fitB ks xs = true → fitB ks ys = true →
    (Op.eqFields (d + 1) (px ++ xs).toArray (py ++ ys).toArray fs).run P w = .ok (eqvL xs ys) w
  | [], ks, px, py, xs, ys, h, hp, hx, hy => by
    simp only [flatF, Option.some.injEq] at h; subst h
    cases xs with
    | nil => cases ys with
      | nil => rfl
      | cons => cases hy
    | cons => cases hx
  | f :: fs, ks, px, py, xs, ys, h, hp, hx, hy => by
    unfold flatF at h
    split at h
    · rename_i s r h1 h2 h3 h4
      simp only [Option.some.injEq] at h; subst h
      have h2 := Nat.eq_of_beq_eq_true h2
      cases xs with
      | nil => cases hx
      | cons x xs =>
        cases ys with
        | nil => cases hy
        | cons y ys =>
          have hx1 : fit1 s x = true := by cases e : fit1 s x <;> simp [fitB, e] at hx ⊢
          have hx2 : fitB r xs = true := by simpa [fitB, hx1] using hx
          have hy1 : fit1 s y = true := by cases e : fit1 s y <;> simp [fitB, e] at hy ⊢
          have hy2 : fitB r ys = true := by simpa [fitB, hy1] using hy
          unfold Op.eqFields
          have hn : f.name ≠ "_" := by simpa using h1
          rw [if_pos hn]
          rw [run_bind (run_part1 (v := x) h3 (by rw [h2]; simp))]
          rw [run_bind (run_part1 (v := y) h3 (by rw [h2, hp]; simp))]
          rw [run_bind (run_eq1 h3 hx1 hy1)]
          have ih := run_eqFields (w := w) (d := d) (fs := fs) (ks := r) (px := px ++ [x]) (py := py ++ [y]) (xs := xs) (ys := ys) (by simpa using h4) (by simp [hp]) hx2 hy2
          simp only [List.append_assoc, List.cons_append, List.nil_append] at ih
          cases he : eqv1 x y with
          | false =>
            simp only [Bool.not_false, if_true]
            show Result.ok false w = _
            cases xs <;> cases ys <;> simp [eqvL, he]
          | true =>
            simp only [Bool.not_true, Bool.false_eq_true, if_false]
            rw [ih]
            cases xs with
            | nil => cases ys with
              | nil => simp [eqvL, he]
              | cons => cases r <;> simp [fitB] at hx2 hy2
            | cons => simp [eqvL, he]
    · cases h

theorem run_equal_flat {P : Program} {w : World} {d : Nat} {t : TypeId} {ks : List SK} {xs ys : List Value} (h : flatK P t = some ks) (hx : fitB ks xs = true) (hy : fitB ks ys = true) : (Op.equalIn (d + 2) t (.agg xs.toArray) (.agg ys.toArray)).run P w = .ok (eqvL xs ys) w := by
  unfold flatK at h
  split at h
  · rename_i fs hu
    split at h
    · rename_i h1 h2
      have hf : P.underlying t = some (.struct (P.fieldsOf t)) := by unfold Program.fieldsOf; rw [hu]
      have hfs : P.fieldsOf t = fs := by unfold Program.fieldsOf; rw [hu]
      rw [run_equalIn_struct w (d + 1) t _ _ hf h1, hfs]
      exact run_eqFields (px := []) (py := []) h rfl hx hy
    · cases h
  · cases h

theorem eq_flat {P : Program} {t : TypeId} {xs ys : List Value} {k : Bool → Prop} {ks : List SK} (h : flatK P t = some ks) (hx : fitB ks xs = true) (hy : fitB ks ys = true) (hk : k (eqvL xs ys)) : EqVC P t xs ys k := by
  refine ⟨_, fun w => run_equal_flat (d := 9998) h hx hy, fun op xo yo w => ?_, hk⟩
  unfold flatK at h
  split at h
  · split at h
    · rename_i h1 h2
      exact run_eqGuard_agg w op t xo yo _ _ h2
    · cases h
  · cases h

/-! ### maps -/
structure KeyOK (P : Program) (kt : TypeId) {K : Type} [DecidableEq K] (ek : K → Value) : Prop where
  find : ∀ (w : World) (a : K) (es : List MapEntry), (∀ e ∈ es, ∃ b, e.key = ek b) → ∃ r, (Instr.findKey kt (ek a) es).run P w = .ok r w ∧
    match r with
    | none => ∀ e ∈ es, e.key ≠ ek a
    | some (i, v) => ∃ e, es[i]? = some e ∧ e.key = ek a ∧ e.val = v
  check : ∀ (w : World) (e : Bool) (a : K), (Instr.checkKey e 10000 kt (ek a)).run P w = .ok () w
  inj : ∀ a b, ek a = ek b → a = b
  same : ∀ a, Instr.sameBits 10000 (ek a) (ek a) = true

theorem findAsking_ok {P : Program} {kt : TypeId} {K : Type} [DecidableEq K] {ek : K → Value} (heq : ∀ (w : World) (a b : K), (Op.equal kt (ek a) (ek b)).run P w = .ok (decide (a = b)) w) (inj : ∀ a b, ek a = ek b → a = b) (w : World) (a : K) :
    ∀ (es : List MapEntry) (i : Nat), (∀ e ∈ es, ∃ b, e.key = ek b) → ∃ r, (Instr.findAsking kt (ek a) es i).run P w = .ok r w ∧
      match r with
      | none => ∀ e ∈ es, e.key ≠ ek a
      | some (j, v) => i ≤ j ∧ ∃ e, es[j - i]? = some e ∧ e.key = ek a ∧ e.val = v
  | [], i, _ => ⟨none, rfl, by simp⟩
  | e :: es, i, h => by
    obtain ⟨b, hb⟩ := h e (by simp)
    unfold Instr.findAsking
    rw [hb, run_bind (heq w a b)]
    by_cases hab : a = b
    · subst hab
      simp only [decide_true, if_true]
      exact ⟨_, rfl, Nat.le_refl _, e, by simp, hb, rfl⟩
    · simp only [hab, decide_false, Bool.false_eq_true, if_false]
      obtain ⟨r, hr, hm⟩ := findAsking_ok heq inj w a es (i + 1) (fun e he => h e (by simp [he]))
      refine ⟨r, hr, ?_⟩
      cases r with
      | none =>
        intro e' he'
        rcases List.mem_cons.1 he' with rfl | he'
        · rw [hb]; exact fun h => hab (inj _ _ h).symm
        · exact hm e' he'
      | some p =>
        obtain ⟨h1, e', h2, h3, h4⟩ := hm
        refine ⟨by omega, e', ?_, h3, h4⟩
        rw [show p.1 - i = (p.1 - (i + 1)) + 1 by omega]; simpa using h2

theorem findNow_ok {d : TypeDesc} {K : Type} [DecidableEq K] {ek : K → Value} (hs : ∀ a b, Instr.sameNow d (ek a) (ek b) = some (decide (a = b))) (inj : ∀ a b, ek a = ek b → a = b) (a : K) :
    ∀ (es : List MapEntry) (i : Nat), (∀ e ∈ es, ∃ b, e.key = ek b) → ∃ r, Instr.findNow d (ek a) es i = some r ∧
      match r with
      | none => ∀ e ∈ es, e.key ≠ ek a
      | some (j, v) => i ≤ j ∧ ∃ e, es[j - i]? = some e ∧ e.key = ek a ∧ e.val = v
  | [], i, _ => ⟨none, rfl, by simp⟩
  | e :: es, i, h => by
    obtain ⟨b, hb⟩ := h e (by simp)
    unfold Instr.findNow
    rw [hb, hs]
    by_cases hab : a = b
    · subst hab
      simp only [decide_true]
      exact ⟨_, rfl, Nat.le_refl _, e, by simp, hb, rfl⟩
    · simp only [hab, decide_false]
      obtain ⟨r, hr, hm⟩ := findNow_ok hs inj a es (i + 1) (fun e he => h e (by simp [he]))
      refine ⟨r, hr, ?_⟩
      cases r with
      | none =>
        intro e' he'
        rcases List.mem_cons.1 he' with rfl | he'
        · rw [hb]; exact fun h => hab (inj _ _ h).symm
        · exact hm e' he'
      | some p =>
        obtain ⟨h1, e', h2, h3, h4⟩ := hm
        refine ⟨by omega, e', ?_, h3, h4⟩
        rw [show p.1 - i = (p.1 - (i + 1)) + 1 by omega]; simpa using h2

theorem keyOK_int {P : Program} {kt : TypeId} {k : IntKind} (hu : P.underlying kt = some (.int k)) : KeyOK P kt (fun a : Int => .int k a) where
  find := fun w a es h => by
    obtain ⟨r, hr, hm⟩ := findNow_ok (d := .int k) (ek := fun a : Int => .int k a) (fun a b => by simp only [Instr.sameNow, if_true]; congr 1) (fun a b h => by simpa using h) a es 0 h
    refine ⟨r, ?_, ?_⟩
    · unfold Instr.findKey
      rw [run_bind (run_underlying hu), hr]; rfl
    · cases r with
      | none => exact hm
      | some p => obtain ⟨_, h⟩ := hm; simpa using h
  check := fun w e a => by
    unfold Instr.checkKey
    rw [run_bind (run_underlying hu)]; rfl
  inj := fun a b h => by simpa using h
  same := fun a => by unfold Instr.sameBits; simp


theorem run_check1 {P : Program} {w : World} {d : Nat} {e : Bool} {t : TypeId} {s : SK} {x : Value} (hs : skOf P t = some s) : (Instr.checkKey e (d + 1) t x).run P w = .ok () w := by
  unfold skOf at hs
  split at hs
  · rename_i k hu; unfold Instr.checkKey; rw [run_bind (run_underlying hu)]; rfl
  · rename_i hu; unfold Instr.checkKey; rw [run_bind (run_underlying hu)]; rfl
  · rename_i hu; unfold Instr.checkKey; rw [run_bind (run_underlying hu)]; rfl
  · cases hs

theorem run_forIn_all {P : Program} {w : World} {α : Type} {g : α → PUnit → Sem (ForInStep PUnit)} : ∀ {fs : List α}, (∀ f ∈ fs, (g f ⟨⟩).run P w = .ok (.yield ⟨⟩) w) → (forIn fs PUnit.unit g).run P w = .ok ⟨⟩ w
  | [], _ => rfl
  | f :: fs, h => by
    rw [List.forIn_cons, run_bind (h f (by simp))]
    exact run_forIn_all fun f hf => h f (by simp [hf])

theorem flatF_mem {P : Program} : ∀ {fs : List Field} {ks : List SK} {px xs : List Value}, flatF P fs px.length = some ks → fitB ks xs = true →
    ∀ f ∈ fs, f.name ≠ "_" ∧ ∃ s v, skOf P f.type = some s ∧ (px ++ xs).toArray[f.offset]? = some v
  | [], ks, px, xs, h, hx => by simp
  | f :: fs, ks, px, xs, h, hx => by
    unfold flatF at h
    split at h
    · rename_i s r h1 h2 h3 h4
      simp only [Option.some.injEq] at h; subst h
      have h2 := Nat.eq_of_beq_eq_true h2
      cases xs with
      | nil => cases hx
      | cons x xs =>
        have hx1 : fit1 s x = true := by cases e : fit1 s x <;> simp [fitB, e] at hx ⊢
        have hx2 : fitB r xs = true := by simpa [fitB, hx1] using hx
        have ih := flatF_mem (fs := fs) (ks := r) (px := px ++ [x]) (xs := xs) (by simpa using h4) hx2
        simp only [List.append_assoc, List.cons_append, List.nil_append] at ih
        intro f' hf'
        rcases List.mem_cons.1 hf' with rfl | hf'
        · exact ⟨by simpa using h1, s, x, h3, by rw [h2]; simp⟩
        · exact ih f' hf'
    · cases h

theorem run_check_flat {P : Program} {w : World} {d : Nat} {e : Bool} {t : TypeId} {ks : List SK} {xs : List Value} (h : flatK P t = some ks) (hx : fitB ks xs = true) : (Instr.checkKey e (d + 2) t (.agg xs.toArray)).run P w = .ok () w := by
  unfold flatK at h
  split at h
  · rename_i fs hu
    split at h
    · unfold Instr.checkKey
      rw [run_bind (run_underlying hu)]
      simp only
      rw [← Array.forIn_toList]
      rw [run_bind (a := PUnit.unit) (w' := w)]
      · rfl
      refine run_forIn_all fun f hf => ?_
      obtain ⟨hn, s, v, h1, h2⟩ := flatF_mem (px := []) h hx f hf
      rw [if_pos hn, run_bind (run_part1 h1 (by simpa using h2)), run_bind (run_check1 h1)]
      rfl
    · cases h
  · cases h

theorem same_flat : ∀ {ks : List SK} {xs : List Value} {n : Nat}, fitB ks xs = true → (xs.zip xs).all (fun (x, y) => Instr.sameBits n x y) = true
  | [], [], _, _ => rfl
  | k :: ks, x :: xs, n, h => by
    have h1 : fit1 k x = true := by cases e : fit1 k x <;> simp [fitB, e] at h ⊢
    have h2 : fitB ks xs = true := by simpa [fitB, h1] using h
    have ih := same_flat (n := n) h2
    rw [List.zip_cons_cons, List.all_cons, ih, Bool.and_true]
    cases k <;> cases x <;> simp [fit1] at h1 <;> simp [Instr.sameBits]
    rw [beq_toListBytes]; simp
  | [], _ :: _, _, h => by cases h
  | _ :: _, [], _, h => by cases h

theorem keyOK_flat {P : Program} {kt : TypeId} {ks : List SK} {K : Type} [DecidableEq K] {f : K → List Value} (h : flatK P kt = some ks) (hf : ∀ a, fitB ks (f a) = true) (he : ∀ a b, eqvL (f a) (f b) = decide (a = b)) :
    KeyOK P kt (fun a : K => .agg (f a).toArray) := by
  have inj : ∀ a b : K, (Value.agg (f a).toArray) = .agg (f b).toArray → a = b := by
    intro a b hab
    have h1 : f a = f b := by simpa using hab
    have h2 := he a b
    rw [h1, he b b] at h2
    simpa using h2.symm
  refine ⟨fun w a es hk => ?_, fun w e a => run_check_flat (d := 9998) h (hf a), inj, fun a => ?_⟩
  · have hu : ∃ fs, P.underlying kt = some (.struct fs) := by
      unfold flatK at h; split at h
      · exact ⟨_, by assumption⟩
      · cases h
    obtain ⟨fs, hu⟩ := hu
    obtain ⟨r, hr, hm⟩ := findAsking_ok (P := P) (kt := kt) (ek := fun a : K => .agg (f a).toArray) (fun w a b => by rw [← he a b]; exact run_equal_flat (d := 9998) h (hf a) (hf b)) inj w a es 0 hk
    refine ⟨r, ?_, ?_⟩
    · unfold Instr.findKey
      rw [run_bind (run_underlying hu)]
      cases es with
      | nil => simpa [Instr.findNow, Instr.findAsking] using hr
      | cons e es => simpa [Instr.findNow, Instr.sameNow] using hr
    · cases r with
      | none => exact hm
      | some p => obtain ⟨_, h⟩ := hm; simpa using h
  · show ((f a).toArray.size == (f a).toArray.size && ((f a).toArray.toList.zip (f a).toArray.toList).all fun (x, y) => Instr.sameBits 9999 x y) = true
    simp only [beq_self_eq_true, Bool.true_and]
    exact same_flat (hf a)
end Go.Ev
