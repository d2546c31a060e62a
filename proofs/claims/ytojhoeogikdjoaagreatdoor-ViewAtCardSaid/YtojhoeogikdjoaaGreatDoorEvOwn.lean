/- A symbolic walk: what is owned: how it is read, written, lent to a call and handed back; contracts of functions; conditions: as in the texts before it. -/
import Derived.Test.YtojhoeogikdjoaaGreatDoorEvUse
import Derived.OwnWalk
import Derived.Laws.StructEq
set_option linter.unusedSimpArgs false
set_option linter.unusedVariables false
set_option linter.unusedSectionVars false
namespace Go.Ev
open Go.RowKit

def setO : List OP → Nat → OP → (List OP → Prop) → Prop
  | [], _, _, k => k []
  | _ :: l, 0, b, k => k (b :: l)
  | b0 :: l, n + 1, b, k => setO l n b fun l => k (b0 :: l)
theorem setO_eq : ∀ (l : List OP) (n : Nat) (b : OP) (k : List OP → Prop), setO l n b k = k (l.set n b)
  | [], _, _, k => rfl
  | _ :: l, 0, _, _ => rfl
  | b0 :: l, n + 1, b, k => by simp only [setO]; rw [setO_eq l]; rfl

def appO : List OP → List OP → (List OP → Prop) → Prop
  | [], l, k => k l
  | o :: os, l, k => appO os l fun os => k (o :: os)
theorem appO_eq : ∀ (l l' : List OP) (k : List OP → Prop), appO l l' k = k (l ++ l')
  | [], _, _ => rfl
  | o :: os, l, k => by simp only [appO]; rw [appO_eq os l]; rfl

section
variable {C : Ctx} {T : Tr} {m : Bool} {k : AV → St → Prop}

/-- Something owned is written. -/
def OsQ (C : Ctx) (S : St) : Nat → Prop := fun b => b ∉ S.ns ∧ (S.E b ∨ S.W.heap.size ≤ b) ∧ (C.W0.heap.size ≤ b ∨ C.M b)
theorem Mod.updO {S : St} {w w' : World} (h : Mod C S w) {fp : Nat → Nat → Prop} (ho : Osc S.os fp w (OsQ C S)) {i : Nat} {o o' : OP} {F' : Nat → Prop} (hi : S.os[i]? = some o)
    (hg : Gl w (fp i) w') (hφ : o'.φ F' w') (hF' : ∀ b, F' b → b < w'.heap.size ∧ (fp i b ∨ w.heap.size ≤ b)) : Mod C ⟨S.W, S.E, S.ns, S.hs, S.os.set i o', S.tm⟩ w' := by
  have hil := (List.getElem?_eq_some_iff.1 hi).1
  obtain ⟨h1, h2⟩ := ho i o hi
  have hns : ∀ b, b ∈ S.ns → ¬ fp i b := fun b hb hf => (h2 b hf).2.1.1 hb
  refine ⟨⟨hg.os.trans h.g.os, hg.tape.trans h.g.tape, hg.output.trans h.g.output, Nat.le_trans h.g.size hg.size, fun j hj hm => ?_⟩, h.le0, Nat.le_trans h.size hg.size, ?_, h.len, ?_, h.nodup, h.sep, h.own, h.exb, h.base, ?_⟩
  · rw [hg.old j (Nat.lt_of_lt_of_le hj h.g.size)]
    · exact h.g.old j hj hm
    · intro hf
      rcases (h2 j hf).2.1.2.2 with h3 | h3
      · omega
      · exact hm h3
  · intro j hj he hn
    rw [hg.old j (Nat.lt_of_lt_of_le hj h.size)]
    · exact h.old j hj he hn
    · intro hf
      rcases (h2 j hf).2.1.2.1 with h3 | h3
      · exact he h3
      · have hj : j < S.W.heap.size := hj
        omega
  · intro t b hb
    obtain ⟨ob, hc, hl⟩ := h.blk t b hb
    refine ⟨ob, ?_, hl⟩
    have htl : t < S.ns.length := by rw [h.len]; exact (List.getElem?_eq_some_iff.1 hb).1
    rw [hg.old _ (Array.getElem?_eq_some_iff.1 hc).1 (hns _ (getD_mem htl))]; exact hc
  · refine ⟨fun j => if j = i then F' else fp j, fun j q hq => ?_⟩
    have hq : (S.os.set i o')[j]? = some q := hq
    rw [List.getElem?_set] at hq
    by_cases hji : j = i
    · subst hji
      rw [if_pos rfl, if_pos hil] at hq
      simp only [Option.some.injEq] at hq; subst hq
      simp only [if_pos]
      refine ⟨hφ, fun b hb => ⟨(hF' b hb).1, ?_, fun l hl hll => ?_⟩⟩
      · rcases (hF' b hb).2 with h3 | h3
        · exact (h2 b h3).2.1
        · refine ⟨fun hm => ?_, .inr (Nat.le_trans h.size h3), .inl (Nat.le_trans h.g.size h3)⟩
          have := h.tag_lt hm; omega
      · rw [if_neg hl]
        have hll : l < (S.os.set j o').length := hll
        rw [List.length_set] at hll
        rcases (hF' b hb).2 with h3 | h3
        · exact (h2 b h3).2.2 l hl hll
        · intro hf
          have := (ho.lt hll hf).1; omega
    · rw [if_neg (fun e => hji e.symm)] at hq
      obtain ⟨g1, g2⟩ := ho j q hq
      simp only [if_neg hji]
      refine ⟨q.loc _ _ _ g1 fun b hb => hg.old b (g2 b hb).1 fun hf => (g2 b hb).2.2 i (fun e => hji e.symm) hil hf, fun b hb => ⟨Nat.lt_of_lt_of_le (g2 b hb).1 hg.size, (g2 b hb).2.1, fun l hl hll => ?_⟩⟩
      have hll : l < (S.os.set i o').length := hll
      rw [List.length_set] at hll
      split
      · rename_i e; subst e
        intro hf
        rcases (hF' b hf).2 with h3 | h3
        · exact (g2 b hb).2.2 l hl (by simpa using hll) h3
        · have := (g2 b hb).1; omega
      · exact (g2 b hb).2.2 l hl (by simpa using hll)

/-- Something more is owned: it is new. -/
theorem Mod.addO {S : St} {w w' : World} (h : Mod C S w) {o' : OP} {F' : Nat → Prop} (hb : Below w.heap.size w w') (hφ : o'.φ F' w') (hF' : ∀ b, F' b → b < w'.heap.size ∧ w.heap.size ≤ b) : Mod C ⟨S.W, S.E, S.ns, S.hs, S.os ++ [o'], S.tm⟩ w' := by
  have h' := h.below hb
  obtain ⟨fp, ho⟩ := h.osc
  refine ⟨h'.g, h'.le0, h'.size, h'.old, h'.len, h'.blk, h'.nodup, h'.sep, h'.own, h'.exb, h'.base, fun j => if j = S.os.length then F' else fp j, fun j q hq => ?_⟩
  have hq : (S.os ++ [o'])[j]? = some q := hq
  have hll : ∀ l, l < (S.os ++ [o']).length → l ≠ S.os.length → l < S.os.length := fun l hl hn => by rw [List.length_append] at hl; simp at hl; omega
  by_cases hj : j = S.os.length
  · subst hj
    rw [List.getElem?_append_right (Nat.le_refl _), Nat.sub_self] at hq
    simp only [List.getElem?_cons_zero, Option.some.injEq] at hq; subst hq
    simp only [if_pos]
    refine ⟨hφ, fun b hb' => ⟨(hF' b hb').1, ⟨fun hm => ?_, .inr (Nat.le_trans h.size (hF' b hb').2), .inl (Nat.le_trans h.g.size (hF' b hb').2)⟩, fun l hl hlt => ?_⟩⟩
    · have := h.tag_lt hm; have := (hF' b hb').2; omega
    · rw [if_neg hl]
      intro hf
      have := (ho.lt (hll l hlt hl) hf).1; have := (hF' b hb').2; omega
  · have hjl : j < S.os.length := by
      have := (List.getElem?_eq_some_iff.1 hq).1
      exact hll j this hj
    rw [List.getElem?_append_left hjl] at hq
    obtain ⟨g1, g2⟩ := ho j q hq
    simp only [if_neg hj]
    refine ⟨q.loc _ _ _ g1 fun b hb' => hb.block b (g2 b hb').1, fun b hb' => ⟨Nat.lt_of_lt_of_le (g2 b hb').1 hb.size, (g2 b hb').2.1, fun l hl hlt => ?_⟩⟩
    split
    · intro hf
      have := (hF' b hf).2; have := (g2 b hb').1; omega
    · rename_i hn; exact (g2 b hb').2.2 l hl (hll l hlt hn)

variable {W : World} {E : Nat → Prop} {ns : List Nat} {hs : List HB} {os : List OP} {tm : List AV}

/-! ### reckonings over the model's words -/
theorem sem_q {s : Sem Value} {y : Value} {S : St} (h : ∀ w, Mod C S w → s.run C.P w = .ok y w) (hk : force (ofVal y) fun r => k r S) : SemVC C m s S k := by
  rw [force_eq] at hk
  exact ⟨fun w hm => ⟨y, w, h w hm, fun _ => Below.refl _ _, S, ofVal y, fun _ h => h, hm, ofVal_R _ y, hk⟩⟩

/-- What is owned at place 'i' is read. -/
theorem sem_oq (i : Nat) {o : OP} {s : Sem Value} {y : Value} (hi : os[i]? = some o) (h : ∀ F w, o.φ F w → s.run C.P w = .ok y w) (hk : force (ofVal y) fun r => k r ⟨W, E, ns, hs, os, tm⟩) : SemVC C m s ⟨W, E, ns, hs, os, tm⟩ k :=
  sem_q (fun w hm => by obtain ⟨fp, ho⟩ := hm.osc; exact h _ w (ho i o hi).1) hk

/-- What is owned at place 'i' is written. -/
theorem sem_o (i : Nat) {o : OP} {s : Sem Value} {ι : Type} (val : ι → Value) (o' : ι → OP) (hi : os[i]? = some o)
    (h : ∀ F w, Mod C ⟨W, E, ns, hs, os, tm⟩ w → o.φ F w → (∀ b, F b → b < w.heap.size) → ∃ j w' F', s.run C.P w = .ok (val j) w' ∧ Gl w F w' ∧ (o' j).φ F' w' ∧ ∀ b, F' b → b < w'.heap.size ∧ (F b ∨ w.heap.size ≤ b)) (hm : m = false)
    (hk : ∀ j, setO os i (o' j) fun os => force (ofVal (val j)) fun r => k r ⟨W, E, ns, hs, os, tm⟩) : SemVC C m s ⟨W, E, ns, hs, os, tm⟩ k :=
  ⟨fun w hmod => by
    obtain ⟨fp, ho⟩ := hmod.osc
    obtain ⟨h1, h2⟩ := ho i o hi
    obtain ⟨j, w', F', hr, hg, hφ, hF⟩ := h (fp i) w hmod h1 fun b hb => (h2 b hb).1
    have hj := hk j
    rw [setO_eq, force_eq] at hj
    exact ⟨val j, w', hr, (by rw [hm]; nofun), ⟨W, E, ns, hs, os.set i (o' j), tm⟩, ofVal (val j), fun _ h => ⟨h.d, h.t⟩, hmod.updO ho hi hg hφ hF, ofVal_R _ _, hj⟩⟩

/-- Something new is owned. -/
theorem sem_onew {s : Sem Value} {ι : Type} (val : ι → Value) (o' : ι → OP)
    (h : ∀ w, Mod C ⟨W, E, ns, hs, os, tm⟩ w → ∃ j w' F', s.run C.P w = .ok (val j) w' ∧ Below w.heap.size w w' ∧ (o' j).φ F' w' ∧ ∀ b, F' b → b < w'.heap.size ∧ w.heap.size ≤ b)
    (hk : ∀ j, appO os [o' j] fun os => force (ofVal (val j)) fun r => k r ⟨W, E, ns, hs, os, tm⟩) : SemVC C m s ⟨W, E, ns, hs, os, tm⟩ k :=
  ⟨fun w hmod => by
    obtain ⟨j, w', F', hr, hb, hφ, hF⟩ := h w hmod
    have hj := hk j
    rw [appO_eq, force_eq] at hj
    exact ⟨val j, w', hr, fun _ => hb, ⟨W, E, ns, hs, os ++ [o' j], tm⟩, ofVal (val j), fun _ h => ⟨h.d, h.t⟩, hmod.addO hb hφ hF, ofVal_R _ _, hj⟩⟩

/-! ### contracts -/
/-- What is no data behind a call. -/
def NX (w : World) (X : Nat → Prop) (fp : Nat → Nat → Prop) (n : Nat) : Nat → Prop := fun b => (X b ∧ b < w.heap.size) ∨ ∃ j, j < n ∧ fp j b
def UF (fp : Nat → Nat → Prop) (n : Nat) : Nat → Prop := fun b => ∃ j, j < n ∧ fp j b

def Post {ι : Type} (w : World) (X M : Nat → Prop) (val : ι → Value) (ros : ι → List OP) (R : ι → World → (Nat → Prop) → Prop) (v : Value) (w' : World) : Prop :=
  ∃ i fp', v = val i ∧ Gl w M w' ∧ Osc (ros i) fp' w' (fun b => M b ∨ w.heap.size ≤ b) ∧ R i w' (NX w X fp' (ros i).length)

/-- What a call comes to that is lent what 'os' says: it hands back what 'ros' says; 'R' are facts on data. -/
structure Cf (P : Program) (f : FuncId) (args : List Value) (w : World) (X : Nat → Prop) (os : List OP) {ι : Type} (val : ι → Value) (ros : ι → List OP) (R : ι → World → (Nat → Prop) → Prop) : Prop where
  go : ∀ fp, Osc os fp w X → Ct P f args w (Post w X (UF fp os.length) val ros R)

/-- The world behind a call. -/
theorem Mod.call {w w' : World} {lent kept ros : List OP} {fp fp' : Nat → Nat → Prop} {M' : Nat → Prop} {ns' : List Nat} {hs' : List HB} (hm : Mod C ⟨W, E, ns, hs, lent ++ kept, tm⟩ w)
    (ho : Osc (lent ++ kept) fp w (OsQ C ⟨W, E, ns, hs, lent ++ kept, tm⟩)) (hg : Gl w M' w') (hM : ∀ b, M' b → UF fp lent.length b ∨ b ∈ ns) (ho' : Osc ros fp' w' (fun b => UF fp lent.length b ∨ w.heap.size ≤ b))
    (hlen : ns'.length = hs'.length) (hsub : ∀ n, n ∈ ns' → n ∈ ns) (hnd : ns'.Nodup) (hblk : ∀ t b, hs'[t]? = some b → ∃ o, w'.heap[ns'.getD t 0]? = some o ∧ b.At ns' o) :
    Mod C ⟨w', NX w (Exc E ns fp (lent ++ kept).length) fp' ros.length, ns', hs', ros ++ kept, tm⟩ w' ∧ Later W E w' (NX w (Exc E ns fp (lent ++ kept).length) fp' ros.length) := by
  have hlt : ∀ b, Exc E ns fp (lent ++ kept).length b → b < w.heap.size := by
    rintro b (hb | hb | ⟨i, hi, hb⟩)
    · exact Nat.lt_of_lt_of_le (hm.exb b hb) hm.size
    · exact hm.tag_lt hb
    · exact (ho.lt hi hb).1
  have hfl : ∀ b, UF fp lent.length b → UF fp (lent ++ kept).length b := fun b ⟨j, hj, hb⟩ => ⟨j, by rw [List.length_append]; omega, hb⟩
  have hnsl : ∀ n, n ∈ ns → ¬ UF fp (lent ++ kept).length n := fun n hn ⟨j, hj, hb⟩ => (ho.lt hj hb).2.1 hn
  have hM2 : ∀ b, M' b → C.W0.heap.size ≤ b ∨ C.M b := fun b hb => by
    rcases hM b hb with h | h
    · obtain ⟨j, hj, hf⟩ := hfl b h
      exact (ho.lt hj hf).2.2.2
    · exact hm.own b h
  have hMX : ∀ b, M' b → Exc E ns fp (lent ++ kept).length b := fun b hb => by
    rcases hM b hb with h | h
    · exact .inr (.inr (hfl b h))
    · exact .inr (.inl h)
  refine ⟨⟨⟨hg.os.trans hm.g.os, hg.tape.trans hm.g.tape, hg.output.trans hm.g.output, Nat.le_trans hm.g.size hg.size, fun b hb hMb => ?_⟩, Nat.le_trans hm.g.size hg.size, Nat.le_refl _, fun _ _ _ _ => rfl, hlen, hblk, hnd,
    fun n hn => .inl (.inl ⟨.inr (.inl (hsub n hn)), hm.tag_lt (hsub n hn)⟩), fun n hn => hm.own n (hsub n hn), ?_, ?_, ?_⟩, ?_⟩
  · rw [hg.old b (Nat.lt_of_lt_of_le hb hm.g.size)]
    · exact hm.g.old b hb hMb
    · intro h
      rcases hM2 b h with h | h
      · omega
      · exact hMb h
  · rintro b (⟨_, hb⟩ | ⟨j, hj, hb⟩)
    · exact Nat.lt_of_lt_of_le hb hg.size
    · exact (ho'.lt hj hb).1
  · intro b hb hX
    exact .inl ⟨.inl (hm.base b hb hX), Nat.lt_of_lt_of_le hb hm.g.size⟩
  · refine ⟨fun j => if j < ros.length then fp' j else fp (j - ros.length + lent.length), fun j o hj => ?_⟩
    have hj : (ros ++ kept)[j]? = some o := hj
    have kl : ∀ l, l < (ros ++ kept).length → ¬ l < ros.length → l - ros.length + lent.length < (lent ++ kept).length := fun l h1 h2 => by
      rw [List.length_append] at h1 ⊢; omega
    by_cases hjl : j < ros.length
    · rw [List.getElem?_append_left hjl] at hj
      obtain ⟨g1, g2⟩ := ho' j o hj
      simp only [if_pos hjl]
      refine ⟨g1, fun b hb => ⟨(g2 b hb).1, ⟨fun hn => ?_, .inl (.inr ⟨j, hjl, hb⟩), ?_⟩, fun l hl hll => ?_⟩⟩
      · have hn := hsub b hn
        rcases (g2 b hb).2.1 with h | h
        · exact hnsl b hn (hfl b h)
        · have := hm.tag_lt hn; omega
      · rcases (g2 b hb).2.1 with h | h
        · obtain ⟨q, hq, hf⟩ := hfl b h
          exact (ho.lt hq hf).2.2.2
        · exact .inl (Nat.le_trans hm.g.size h)
      · split
        · rename_i h; exact (g2 b hb).2.2 l hl h
        · rename_i h
          intro hf
          have hlt2 := kl l hll h
          rcases (g2 b hb).2.1 with ⟨q, hq, hf'⟩ | h'
          · have hq2 : (lent ++ kept)[q]? = some ((lent ++ kept)[q]'(by rw [List.length_append]; omega)) := List.getElem?_eq_getElem _
            exact (ho q _ hq2).2 b hf' |>.2.2 _ (by omega) hlt2 hf
          · have := (ho.lt hlt2 hf).1; omega
    · rw [List.getElem?_append_right (by omega)] at hj
      have hjlt : j - ros.length < kept.length := (List.getElem?_eq_some_iff.1 hj).1
      have hj2 : (lent ++ kept)[j - ros.length + lent.length]? = some o := by
        rw [List.getElem?_append_right (by omega), show j - ros.length + lent.length - lent.length = j - ros.length by omega]; exact hj
      obtain ⟨g1, g2⟩ := ho _ o hj2
      simp only [if_neg hjl]
      have hnM : ∀ b, fp (j - ros.length + lent.length) b → ¬ M' b := fun b hb hMb => by
        rcases hM b hMb with ⟨q, hq, hf⟩ | h
        · exact (g2 b hb).2.2 q (by omega) (by rw [List.length_append]; omega) hf
        · exact (g2 b hb).2.1.1 h
      refine ⟨o.loc _ _ _ g1 fun b hb => hg.old b (g2 b hb).1 (hnM b hb), fun b hb => ⟨Nat.lt_of_lt_of_le (g2 b hb).1 hg.size, ⟨fun hn => (g2 b hb).2.1.1 (hsub b hn), .inl (.inl ⟨.inr (.inr ⟨_, (List.getElem?_eq_some_iff.1 hj2).1, hb⟩), (g2 b hb).1⟩), (g2 b hb).2.1.2.2⟩, fun l hl hll => ?_⟩⟩
      split
      · rename_i h
        intro hf
        rcases (ho'.lt h hf).2 with ⟨q, hq, hf'⟩ | h'
        · exact (g2 b hb).2.2 q (by omega) (by rw [List.length_append]; omega) hf'
        · have := (g2 b hb).1; omega
      · rename_i h
        exact (g2 b hb).2.2 _ (by have hl : l ≠ j := hl; omega) (kl l hll h)
  · refine ⟨Nat.le_trans hm.size hg.size, fun b hb he => ?_⟩
    have hbw : b < w.heap.size := Nat.lt_of_lt_of_le hb hm.size
    obtain ⟨h1, h2⟩ := hm.data hb he
    have hnX : ¬ Exc E ns fp (lent ++ kept).length b := by
      rintro (h | h | ⟨i, hi, hf⟩)
      · exact he h
      · exact h1 h
      · rcases (ho.lt hi hf).2.2.1 with h3 | h3
        · exact he h3
        · have h3 : W.heap.size ≤ b := h3
          omega
    refine ⟨?_, ?_⟩
    · rintro (⟨h, _⟩ | ⟨j, hj, hf⟩)
      · exact hnX h
      · rcases (ho'.lt hj hf).2 with h | h
        · exact hnX (.inr (.inr (hfl b h)))
        · omega
    · rw [hg.old b hbw fun h => hnX (hMX b h)]; exact h2

/-- A call that is lent the first of what is owned. -/
theorem callV_f (lent : List OP) {kept : List OP} {fv : Value} {args : List Value} {ι : Type} {val : ι → Value} {ros : ι → List OP} {R : ι → World → (Nat → Prop) → Prop} (hos : os = lent ++ kept)
    (h : ∀ w X, Mod C ⟨W, E, ns, hs, os, tm⟩ w → Later W E w X → ∀ fp, Osc lent fp w X → CtV C.P fv args w (Post w X (UF fp lent.length) val ros R)) (hm : m = false ∨ lent = [])
    (hk : ∀ i w' E', R i w' E' → Later W E w' E' → appO (ros i) kept fun os => force (ofVal (val i)) fun r => k r ⟨w', E', ns, hs, os, tm⟩) : CallVC C m fv args ⟨W, E, ns, hs, os, tm⟩ k := by
  subst hos
  refine ⟨fun w hmod => ?_⟩
  obtain ⟨fp, ho⟩ := hmod.osc
  have hl : Osc lent fp w (Exc E ns fp (lent ++ kept).length) := fun i o hi => by
    have hlt := (List.getElem?_eq_some_iff.1 hi).1
    obtain ⟨g1, g2⟩ := ho i o (by show (lent ++ kept)[i]? = _; rw [List.getElem?_append_left hlt]; exact hi)
    exact ⟨g1, fun b hb => ⟨(g2 b hb).1, .inr (.inr ⟨i, by rw [List.length_append]; omega, hb⟩), fun j hj hjl => (g2 b hb).2.2 j hj (by show j < (lent ++ kept).length; rw [List.length_append]; omega)⟩⟩
  refine (h w _ hmod (hmod.snap ho).2 fp hl).mono ?_
  rintro v w' ⟨i, fp', rfl, hg, ho', hR⟩
  obtain ⟨k1, k2⟩ := Mod.call hmod ho hg (fun b hb => .inl hb) ho' hmod.len (fun _ h => h) hmod.nodup fun t b hb => by
    obtain ⟨o, hc, hl'⟩ := hmod.blk t b hb
    have htl : t < ns.length := by have := hmod.len; have h5 : t < hs.length := (List.getElem?_eq_some_iff.1 hb).1; have this : ns.length = hs.length := this; omega
    refine ⟨o, ?_, hl'⟩
    rw [hg.old _ (Array.getElem?_eq_some_iff.1 hc).1]
    · exact hc
    · rintro ⟨j, hj, hf⟩
      exact (ho.lt (i := j) (by show j < (lent ++ kept).length; rw [List.length_append]; omega) hf).2.1 (getD_mem htl)
  have h2 := hk i w' _ hR k2
  rw [appO_eq, force_eq] at h2
  refine ⟨fun e => ?_, ⟨w', _, ns, hs, ros i ++ kept, tm⟩, ofVal (val i), fun _ h => ⟨h.d, h.t⟩, k1, ofVal_R _ _, h2⟩
  rcases hm with h | h
  · rw [h] at e; cases e
  · subst h
    exact (hg.mono (G := fun _ => False) (by rintro b ⟨j, hj, _⟩; simp at hj)).below

theorem ctV_cf {P : Program} {f : FuncId} {args : List Value} {w : World} {R : Value → World → Prop} (h : Ct P f args w R) : CtV P (.func (.func f) #[] #[]) args w R := ctV_of_ct h

/-- A call that is lent the first of what is owned. -/
theorem call_f (lent : List OP) {kept : List OP} {f : FuncId} {args : List Value} {ι : Type} {val : ι → Value} {ros : ι → List OP} {R : ι → World → (Nat → Prop) → Prop} (hos : os = lent ++ kept)
    (h : ∀ w X, Mod C ⟨W, E, ns, hs, os, tm⟩ w → Later W E w X → Cf C.P f args w X lent val ros R) (hm : m = false ∨ lent = [])
    (hk : ∀ i w' E', R i w' E' → Later W E w' E' → appO (ros i) kept fun os => force (ofVal (val i)) fun r => k r ⟨w', E', ns, hs, os, tm⟩) : CallVC C m (.func (.func f) #[] #[]) args ⟨W, E, ns, hs, os, tm⟩ k :=
  callV_f lent hos (fun w X hmod hl fp ho => ctV_of_ct ((h w X hmod hl).go fp ho)) hm hk
/-- A call that is lent nothing. -/
theorem call_n {f : FuncId} {args : List Value} {ι : Type} {val : ι → Value} {ros : ι → List OP} {R : ι → World → (Nat → Prop) → Prop}
    (h : ∀ w X, Mod C ⟨W, E, ns, hs, os, tm⟩ w → Later W E w X → Cf C.P f args w X [] val ros R)
    (hk : ∀ i w' E', R i w' E' → Later W E w' E' → appO (ros i) os fun os => force (ofVal (val i)) fun r => k r ⟨w', E', ns, hs, os, tm⟩) : CallVC C m (.func (.func f) #[] #[]) args ⟨W, E, ns, hs, os, tm⟩ k :=
  call_f [] rfl h (.inr rfl) hk


/-! ### a single block that is owned -/
/-- A block of plain cells. -/
def structP (t : TypeId) (n : Nat) (cs : List Value) : OP where
  φ F w := (∀ b, F b ↔ b = n) ∧ w.heap[n]? = some (.cells cs.toArray t (0, 0))
  loc F w w' h hs := ⟨h.1, by rw [hs n ((h.1 n).2 rfl)]; exact h.2⟩

/-- The cells of a block known whole. -/
def lvL (ns : List Nat) : List Lf → Option (List Value)
  | [] => some []
  | l :: ls => match l, lvL ns ls with
    | .v x, some r => some (x :: r)
    | .tt, some r => some (.bool true :: r)
    | .ff, some r => some (.bool false :: r)
    | .p t o, some r => some (.pointer (some ⟨ns.getD t 0, o, none⟩) :: r)
    | _, _ => none
theorem lvL_sound {ns : List Nat} : ∀ {ls : List Lf} {cs ds : List Value}, lvL ns ls = some cs → LR ns ls ds → ds = cs
  | [], _, [], h, _ => by simp [lvL] at h; exact h.symm ▸ rfl
  | l :: ls, cs, d :: ds, h, hl => by
    unfold lvL at h
    split at h
    · rename_i x r e; simp only [Option.some.injEq] at h; subst h; rw [lvL_sound e hl.2, show d = x from hl.1]
    · rename_i r e; simp only [Option.some.injEq] at h; subst h; rw [lvL_sound e hl.2, show d = _ from hl.1]
    · rename_i r e; simp only [Option.some.injEq] at h; subst h; rw [lvL_sound e hl.2, show d = _ from hl.1]
    · rename_i t o r e; simp only [Option.some.injEq] at h; subst h; rw [lvL_sound e hl.2, show d = _ from hl.1]
    · cases h
  | [], _, _ :: _, _, hl => hl.elim
  | _ :: _, _, [], _, hl => hl.elim
theorem Mod.tagAt {S : St} {w : World} (hm : Mod C S w) {t n : Nat} {ty : TypeId} {ls : List Lf} {cs : List Value} (h1 : S.ns[t]? = some n) (h2 : S.hs[t]? = some (.k ty ls)) (h3 : lvL S.ns ls = some cs) : w.heap[n]? = some (.cells cs.toArray ty (0, 0)) := by
  obtain ⟨_, hc, ds, rfl, hl⟩ := hm.blk t _ h2
  rw [getD_of h1] at hc
  rw [hc, lvL_sound h3 hl]
/-- A block known whole, where it is read by a plain address. -/
theorem rd_tag (t : Nat) {n i : Nat} {ty : TypeId} {ls : List Lf} {cs ds : List Value} (h1 : ns[t]? = some n) (h2 : hs[t]? = some (.k ty ls)) (h3 : lvL ns ls = some cs) (hd : (cs.drop i).take ds.length = ds) : RdAt ⟨W, E, ns, hs, os, tm⟩ ⟨n, i, none⟩ ds :=
  ⟨fun C w hm j v hj => by
    have hc := hm.tagAt h1 h2 h3
    rw [add_zero_off]
    unfold World.cell?
    simp only [hc]
    rw [← hd, List.getElem?_take] at hj
    split at hj
    · rw [List.getElem?_drop] at hj; simpa using hj
    · cases hj⟩

/-- A call that is lent a single block, and the first of what else is owned. -/
theorem callV_t (t : Nat) (lent : List OP) {kept : List OP} {n : Nat} {ty : TypeId} {ls : List Lf} {cs : List Value} {fv : Value} {args : List Value} {ι : Type} {val : ι → Value} {cs' : ι → List Value} {ros : ι → List OP} {R : ι → World → (Nat → Prop) → Prop} (ls' : ι → List Lf)
    (h1 : ns[t]? = some n) (h2 : hs[t]? = some (.k ty ls)) (h3 : lvL ns ls = some cs) (hos : os = lent ++ kept) (hls : ∀ i, lvL ns (ls' i) = some (cs' i) ∧ LR ns (ls' i) (cs' i))
    (h : ∀ w X, Mod C ⟨W, E, ns, hs, os, tm⟩ w → Later W E w X → ∀ fp, Osc (structP ty n cs :: lent) fp w X → CtV C.P fv args w (Post w X (UF fp (structP ty n cs :: lent).length) val (fun i => structP ty n (cs' i) :: ros i) R)) (hm : m = false)
    (hk : ∀ i w' E', R i w' E' → Later W E w' E' → appO (ros i) kept fun os => setH hs t (.k ty (ls' i)) fun hs => force (ofVal (val i)) fun r => k r ⟨w', E', ns, hs, os, tm⟩) : CallVC C m fv args ⟨W, E, ns, hs, os, tm⟩ k := by
  subst hos
  refine ⟨fun w hmod => ?_⟩
  obtain ⟨fp, ho⟩ := hmod.osc
  have hnm : n ∈ ns := List.mem_of_getElem? h1
  have hcell := hmod.tagAt h1 h2 h3
  let fpc : Nat → Nat → Prop := fun j b => match j with | 0 => b = n | j + 1 => fp j b
  have hnf : ∀ j, j < (lent ++ kept).length → ¬ fp j n := fun j hj hf => (ho.lt (i := j) hj hf).2.1 hnm
  have hl : Osc (structP ty n cs :: lent) fpc w (Exc E ns fp (lent ++ kept).length) := by
    intro i o hi
    cases i with
    | zero =>
      simp at hi; subst hi
      refine ⟨⟨fun b => Iff.rfl, hcell⟩, fun b hb => ?_⟩
      have hb : b = n := hb
      rw [hb]
      refine ⟨hmod.tag_lt hnm, .inr (.inl hnm), fun j hj hjl => ?_⟩
      cases j with
      | zero => omega
      | succ j => exact hnf j (by simp at hjl; rw [List.length_append]; omega)
    | succ i =>
      have hi : lent[i]? = some o := by simpa using hi
      have hlt := (List.getElem?_eq_some_iff.1 hi).1
      obtain ⟨g1, g2⟩ := ho i o (by show (lent ++ kept)[i]? = _; rw [List.getElem?_append_left hlt]; exact hi)
      refine ⟨g1, fun b hb => ⟨(g2 b hb).1, .inr (.inr ⟨i, by rw [List.length_append]; omega, hb⟩), fun j hj hjl => ?_⟩⟩
      cases j with
      | zero => exact fun e => hnf i (by rw [List.length_append]; omega) (by have e : b = n := e; rw [← e]; exact hb)
      | succ j => exact (g2 b hb).2.2 j (by omega) (by show j < (lent ++ kept).length; simp at hjl; rw [List.length_append]; omega)
  refine (h w _ hmod (hmod.snap ho).2 fpc hl).mono ?_
  rintro v w' ⟨i, fp', rfl, hg, ho', hR⟩
  have hU : ∀ b, UF fpc (structP ty n cs :: lent).length b → UF fp lent.length b ∨ b = n := by
    rintro b ⟨j, hj, hb⟩
    cases j with
    | zero => exact .inr hb
    | succ j => exact .inl ⟨j, by simpa using hj, hb⟩
  obtain ⟨⟨hF0, hcell'⟩, _⟩ := ho' 0 _ rfl
  let fq : Nat → Nat → Prop := fun j => fp' (j + 1)
  have hq : Osc (ros i) fq w' (fun b => UF fp lent.length b ∨ w.heap.size ≤ b) := by
    intro j o hj
    obtain ⟨g1, g2⟩ := ho' (j + 1) o (by simpa using hj)
    refine ⟨g1, fun b hb => ⟨(g2 b hb).1, ?_, fun l hl hll => (g2 b hb).2.2 (l + 1) (by omega) (by simpa using hll)⟩⟩
    rcases (g2 b hb).2.1 with h | h
    · rcases hU b h with h | rfl
      · exact .inl h
      · exact absurd ((hF0 b).2 rfl) ((g2 b hb).2.2 0 (by omega) (by simp))
    · exact .inr h
  have hNX : NX w (Exc E ns fp (lent ++ kept).length) fp' (structP ty n (cs' i) :: ros i).length = NX w (Exc E ns fp (lent ++ kept).length) fq (ros i).length := by
    funext b
    refine propext ⟨?_, ?_⟩
    · rintro (h | ⟨j, hj, hb⟩)
      · exact .inl h
      · cases j with
        | zero => rw [(hF0 b).1 hb]; exact .inl ⟨.inr (.inl hnm), hmod.tag_lt hnm⟩
        | succ j => exact .inr ⟨j, by simpa using hj, hb⟩
    · rintro (h | ⟨j, hj, hb⟩)
      · exact .inl h
      · exact .inr ⟨j + 1, by simpa using hj, hb⟩
  have htl : t < ns.length := (List.getElem?_eq_some_iff.1 h1).1
  have hlen : ns.length = hs.length := hmod.len
  obtain ⟨k1, k2⟩ := Mod.call (hs' := hs.set t (.k ty (ls' i))) hmod ho hg (fun b hb => (hU b hb).elim .inl fun h => .inr (by rw [h]; exact hnm)) hq (by rw [List.length_set]; exact hlen) (fun _ h => h) hmod.nodup fun q b hb => by
    rw [List.getElem?_set] at hb
    split at hb
    · rename_i e; subst e
      split at hb
      · simp only [Option.some.injEq] at hb; subst hb
        rw [getD_of h1]
        exact ⟨_, hcell', _, rfl, (hls i).2⟩
      · cases hb
    · rename_i hne
      obtain ⟨o, hc, hl'⟩ := hmod.blk q b hb
      have hql : q < ns.length := by have h5 : q < hs.length := (List.getElem?_eq_some_iff.1 hb).1; omega
      refine ⟨o, ?_, hl'⟩
      rw [hg.old _ (Array.getElem?_eq_some_iff.1 hc).1]
      · exact hc
      · intro hu
        rcases hU _ hu with ⟨j, hj, hf⟩ | e
        · exact (ho.lt (i := j) (by show j < (lent ++ kept).length; rw [List.length_append]; omega) hf).2.1 (getD_mem hql)
        · have e : ns.getD q 0 = n := e
          rw [List.getD_eq_getElem?_getD, List.getElem?_eq_getElem hql, Option.getD_some, ← (List.getElem?_eq_some_iff.1 h1).2] at e
          exact hne ((List.getElem_inj hmod.nodup).1 e).symm
  rw [hNX] at hR
  have h2 := hk i w' _ hR k2
  rw [appO_eq, setH_eq, force_eq] at h2
  refine ⟨fun e => (by rw [hm] at e; cases e), ⟨w', _, ns, hs.set t (.k ty (ls' i)), ros i ++ kept, tm⟩, ofVal (val i), fun _ h => ⟨h.d, h.t⟩, k1, ofVal_R _ _, h2⟩
theorem call_t (t : Nat) (lent : List OP) {kept : List OP} {n : Nat} {ty : TypeId} {ls : List Lf} {cs : List Value} {f : FuncId} {args : List Value} {ι : Type} {val : ι → Value} {cs' : ι → List Value} {ros : ι → List OP} {R : ι → World → (Nat → Prop) → Prop} (ls' : ι → List Lf)
    (h1 : ns[t]? = some n) (h2 : hs[t]? = some (.k ty ls)) (h3 : lvL ns ls = some cs) (hos : os = lent ++ kept) (hls : ∀ i, lvL ns (ls' i) = some (cs' i) ∧ LR ns (ls' i) (cs' i))
    (h : ∀ w X, Mod C ⟨W, E, ns, hs, os, tm⟩ w → Later W E w X → Cf C.P f args w X (structP ty n cs :: lent) val (fun i => structP ty n (cs' i) :: ros i) R) (hm : m = false)
    (hk : ∀ i w' E', R i w' E' → Later W E w' E' → appO (ros i) kept fun os => setH hs t (.k ty (ls' i)) fun hs => force (ofVal (val i)) fun r => k r ⟨w', E', ns, hs, os, tm⟩) : CallVC C m (.func (.func f) #[] #[]) args ⟨W, E, ns, hs, os, tm⟩ k :=
  callV_t t lent ls' h1 h2 h3 hos hls (fun w X hmod hl fp ho => ctV_of_ct ((h w X hmod hl).go fp ho)) hm hk

/-! ### a call that only reads -/
/-- What is read in the walk is data for a callee that writes nothing. -/
theorem RdAt.dat {S : St} {w : World} {a : Addr} {c : Value} {cs : List Value} (h : RdAt S a (c :: cs)) (hm : Mod C S w) : Dat w (fun _ => False) a (c :: cs) :=
  CellsAt.dat ⟨fun h => h, fun i v hi => h.go C w hm i v hi⟩
theorem Mod.all {S : St} {w : World} (hm : Mod C S w) : Later S.W S.E w (fun _ => False) := ⟨hm.size, fun b hb he => ⟨fun h => h, (hm.data hb he).2⟩⟩
theorem call_r {f : FuncId} {args : List Value} {ι : Type} {val : ι → Value} {ros : ι → List OP} {R : ι → World → (Nat → Prop) → Prop} {p : ι → Prop}
    (h : ∀ w, Mod C ⟨W, E, ns, hs, os, tm⟩ w → Later W E w (fun _ => False) → Cf C.P f args w (fun _ => False) [] val ros R) (hp : ∀ i w2 E2, R i w2 E2 → p i)
    (hk : ∀ i, p i → force (ofVal (val i)) fun r => k r ⟨W, E, ns, hs, os, tm⟩) : CallVC C m (.func (.func f) #[] #[]) args ⟨W, E, ns, hs, os, tm⟩ k :=
  ⟨fun w hmod => (ctV_of_ct ((h w hmod hmod.all).go (fun _ _ => False) (by simp [Osc]))).mono fun v w' ⟨i, fp', e, hg, _, hR⟩ => by
    subst e
    have hb : Below w.heap.size w w' := (hg.mono (G := fun _ => False) (by rintro b ⟨j, hj, _⟩; simp at hj)).below
    have h2 := hk i (hp i _ _ hR)
    rw [force_eq] at h2
    exact ⟨fun _ => hb, ⟨W, E, ns, hs, os, tm⟩, ofVal (val i), fun _ h => h, hmod.below hb, ofVal_R _ _, h2⟩⟩

theorem Mod.addOs {S : St} {w w' : World} (h : Mod C S w) {ros : List OP} {fp' : Nat → Nat → Prop} (hb : Below w.heap.size w w') (ho' : Osc ros fp' w' (fun b => w.heap.size ≤ b)) : Mod C ⟨S.W, S.E, S.ns, S.hs, S.os ++ ros, S.tm⟩ w' := by
  have h' := h.below hb
  obtain ⟨fp, ho⟩ := h.osc
  refine ⟨h'.g, h'.le0, h'.size, h'.old, h'.len, h'.blk, h'.nodup, h'.sep, h'.own, h'.exb, h'.base, fun j => if j < S.os.length then fp j else fp' (j - S.os.length), fun j q hq => ?_⟩
  have hq : (S.os ++ ros)[j]? = some q := hq
  have hll : ∀ l, l < (S.os ++ ros).length → ¬ l < S.os.length → l - S.os.length < ros.length := fun l hl hn => by rw [List.length_append] at hl; omega
  by_cases hj : j < S.os.length
  · rw [List.getElem?_append_left hj] at hq
    obtain ⟨g1, g2⟩ := ho j q hq
    simp only [if_pos hj]
    refine ⟨q.loc _ _ _ g1 fun b hb' => hb.block b (g2 b hb').1, fun b hb' => ⟨Nat.lt_of_lt_of_le (g2 b hb').1 hb.size, (g2 b hb').2.1, fun l hl hlt => ?_⟩⟩
    split
    · rename_i hn; exact (g2 b hb').2.2 l hl hn
    · rename_i hn
      intro hf
      have := (ho'.lt (hll l hlt hn) hf).2; have := (g2 b hb').1; omega
  · rw [List.getElem?_append_right (by omega)] at hq
    obtain ⟨g1, g2⟩ := ho' _ q hq
    simp only [if_neg hj]
    refine ⟨g1, fun b hb' => ⟨(g2 b hb').1, ⟨fun hm => ?_, .inr (Nat.le_trans h.size (g2 b hb').2.1), .inl (Nat.le_trans h.g.size (g2 b hb').2.1)⟩, fun l hl hlt => ?_⟩⟩
    · have := h.tag_lt hm; have := (g2 b hb').2.1; omega
    · split
      · rename_i hn
        intro hf
        have := (ho.lt hn hf).1; have := (g2 b hb').2.1; omega
      · rename_i hn
        exact (g2 b hb').2.2 _ (by have hl : l ≠ j := hl; omega) (hll l hlt hn)
/-- A call that only reads; what it hands back is new. -/
theorem call_rn {f : FuncId} {args : List Value} {ι : Type} {val : ι → Value} {ros : ι → List OP} {R : ι → World → (Nat → Prop) → Prop} {p : ι → Prop}
    (h : ∀ w, Mod C ⟨W, E, ns, hs, os, tm⟩ w → Later W E w (fun _ => False) → Cf C.P f args w (fun _ => False) [] val ros R) (hp : ∀ i w2 E2, R i w2 E2 → p i)
    (hk : ∀ i, p i → appO os (ros i) fun os => force (ofVal (val i)) fun r => k r ⟨W, E, ns, hs, os, tm⟩) : CallVC C m (.func (.func f) #[] #[]) args ⟨W, E, ns, hs, os, tm⟩ k :=
  ⟨fun w hmod => (ctV_of_ct ((h w hmod hmod.all).go (fun _ _ => False) (by simp [Osc]))).mono fun v w' ⟨i, fp', e, hg, ho', hR⟩ => by
    subst e
    have hb : Below w.heap.size w w' := (hg.mono (G := fun _ => False) (by rintro b ⟨j, hj, _⟩; simp at hj)).below
    have h2 := hk i (hp i _ _ hR)
    rw [appO_eq, force_eq] at h2
    exact ⟨fun _ => hb, ⟨W, E, ns, hs, os ++ ros i, tm⟩, ofVal (val i), fun _ h => ⟨h.d, h.t⟩, hmod.addOs hb (ho'.same (fun _ _ _ => rfl) (Nat.le_refl _) fun b _ hq => hq.elim (fun ⟨j, hj, _⟩ => by simp at hj) fun h => h), ofVal_R _ _, h2⟩⟩

/-! ### a function's begin and end -/
theorem argTm_R (ns : List Nat) : ∀ (vs : List Value) (ls : List AV) (n : Nat), TR ns ls vs → TR ns (ls ++ undefs (n - vs.length)) (vs ++ List.replicate (n - vs.length) undef)
  | [], [], n, _ => by
    simp only [List.nil_append, List.length_nil, Nat.sub_zero, undefs_eq]
    induction n with
    | zero => trivial
    | succ n ih => exact ⟨rfl, ih⟩
  | v :: vs, l :: ls, 0, h => ⟨h.1, by simpa using argTm_R ns vs ls 0 h.2⟩
  | v :: vs, l :: ls, n + 1, h => ⟨h.1, by simpa using argTm_R ns vs ls n h.2⟩
  | [], _ :: _, _, h => h.elim
  | _ :: _, [], _, h => h.elim

/-- A function that is lent 'os'. -/
theorem cf_of_ev {P : Program} {T : Tr} {f : FuncId} {fn : Func} {c : Code} {args : List Value} {w : World} {X : Nat → Prop} {os : List OP} {ι : Type} {val : ι → Value} {ros : ι → List OP} {R : ι → World → (Nat → Prop) → Prop} (hT : T.OK P) (hmix : P.follows .mixedOrders = true)
    (hf : P.funcs[f]? = some fn) (hn : (fn.name == "runtime.NumGoroutine") = false) (hb : fn.body = some c)
    (h : ∀ M, (os = [] → ∀ b, ¬ M b) → forceT (argAVs args fn.ntmps) fun tm => ev ⟨P, w, M, X⟩ T c ⟨w, fun b => X b ∧ b < w.heap.size, [], [], os, tm⟩ (retK ⟨P, w, M, X⟩ T fn.results.toList (Post w X M val ros R))) : Cf P f args w X os val ros R := by
  refine ⟨fun fp ho => ?_⟩
  have h := h (UF fp os.length) (by rintro rfl b ⟨j, hj, _⟩; simp at hj)
  rw [forceT_eq] at h
  refine ct_of_ev' hT hmix hf hn hb _ _ _ (argAVs_R [] args fn.ntmps) (Mod.start P w _ X [] [] os _ rfl List.nodup_nil (by simp) (by simp) ⟨fp, fun i o hi => ?_⟩) h
  obtain ⟨g1, g2⟩ := ho i o hi
  exact ⟨g1, fun b hb => ⟨(g2 b hb).1, ⟨by simp, (g2 b hb).2.1, ⟨i, (List.getElem?_eq_some_iff.1 hi).1, hb⟩⟩, (g2 b hb).2.2⟩⟩

/-- A function that is lent a single block that it knows whole, and 'os'. -/
theorem cf_of_evt {P : Program} {T : Tr} {f : FuncId} {fn : Func} {c : Code} {args : List Value} {w : World} {X : Nat → Prop} {os : List OP} {ty : TypeId} {n : Nat} {cs : List Value} {ι : Type} {val : ι → Value} {ros : ι → List OP} {R : ι → World → (Nat → Prop) → Prop} (hT : T.OK P) (hmix : P.follows .mixedOrders = true)
    (hf : P.funcs[f]? = some fn) (hn : (fn.name == "runtime.NumGoroutine") = false) (hb : fn.body = some c) (as : List AV) (has : TR [n] as args)
    (h : ∀ M, X n → forceT (as ++ undefs (fn.ntmps - args.length)) fun tm => ev ⟨P, w, M, X⟩ T c ⟨w, fun b => X b ∧ b < w.heap.size, [n], [.k ty (cs.map .v)], os, tm⟩ (retK ⟨P, w, M, X⟩ T fn.results.toList (Post w X M val ros R))) : Cf P f args w X (structP ty n cs :: os) val ros R := by
  refine ⟨fun fp ho => ?_⟩
  obtain ⟨⟨hF, hc⟩, h0⟩ := ho 0 _ rfl
  have hn0 := h0 n ((hF n).2 rfl)
  have h := h (UF fp (structP ty n cs :: os).length) hn0.2.1
  rw [forceT_eq] at h
  refine ct_of_ev' hT hmix hf hn hb _ _ _ (argTm_R [n] args as fn.ntmps has) (Mod.start P w _ X [n] [.k ty (cs.map .v)] os _ rfl (by simp) ?_ ?_ ⟨fun j => fp (j + 1), fun i o hi => ?_⟩) h
  · intro x hx; simp at hx; subst hx
    exact ⟨hn0.2.1, 0, by simp, (hF x).2 rfl⟩
  · intro t b hb
    cases t with
    | zero => simp at hb; subst hb; exact ⟨_, hc, cs, rfl, LR.of_v cs⟩
    | succ t => simp at hb
  · obtain ⟨g1, g2⟩ := ho (i + 1) o (by simpa using hi)
    refine ⟨g1, fun b hb => ⟨(g2 b hb).1, ⟨?_, (g2 b hb).2.1, ⟨i + 1, by have := (List.getElem?_eq_some_iff.1 hi).1; simp; omega, hb⟩⟩, fun j hj hjl => (g2 b hb).2.2 (j + 1) (by omega) (by simpa using hjl)⟩⟩
    intro hm
    simp at hm; subst hm
    exact (g2 b hb).2.2 0 (by omega) (by simp) ((hF b).2 rfl)

/-- What is known of data at a function's end, for its caller. -/
theorem Mod.laterOut {P : Program} {w0 w' : World} {M X : Nat → Prop} {S : St} (hm : Mod ⟨P, w0, M, X⟩ S w') {fp : Nat → Nat → Prop} {n : Nat} (hfp : ∀ j b, j < n → fp j b → S.E b ∨ b ∈ S.ns ∨ S.W.heap.size ≤ b) : Later S.W S.E w' (NX w0 X fp n) :=
  ⟨hm.size, fun b hb he => by
    obtain ⟨h1, h2⟩ := hm.data hb he
    refine ⟨?_, h2⟩
    rintro (⟨hX, hlt⟩ | ⟨j, hj, hf⟩)
    · exact he (hm.base b hlt hX)
    · rcases hfp j b hj hf with h | h | h
      · exact he h
      · exact h1 h
      · omega⟩

/-- What was owned and is not handed back is data: of a function that is lent nothing. -/
structure Rel (M : Nat → Prop) (ns : List Nat) (hs : List HB) (rest : List OP) (w' : World) (E' : Nat → Prop) : Prop where
  tag : ∀ (t n : Nat) (ty : TypeId) (ls : List Lf) (cs : List Value), ns[t]? = some n → hs[t]? = some (.k ty ls) → lvL ns ls = some cs → (∀ b, ¬ M b) → w'.heap[n]? = some (.cells cs.toArray ty (0, 0)) ∧ ¬ E' n
  own : ∀ (j : Nat) (o : OP), rest[j]? = some o → (∀ b, ¬ M b) → ∃ F, o.φ F w' ∧ ∀ b, F b → ¬ E' b

/-- A function's end: it hands back the first of what it owns. -/
theorem ret_f {P : Program} {w0 : World} {M X : Nat → Prop} {v : Value} {ι : Type} {val : ι → Value} {ros : ι → List OP} {R : ι → World → (Nat → Prop) → Prop} (i : ι) {rest : List OP} (hv : v = val i) (hos : os = ros i ++ rest)
    (hR : ∀ w' E', Later W E w' E' → Rel M ns hs rest w' E' → R i w' E') : RetVC ⟨P, w0, M, X⟩ ⟨W, E, ns, hs, os, tm⟩ v (Post w0 X M val ros R) := by
  refine ⟨fun w' hm => ?_⟩
  subst hos
  obtain ⟨fp, ho⟩ := hm.osc
  refine ⟨i, fp, hv, hm.g, fun j o hj => ?_, hR w' _ (hm.laterOut fun j b hj hf => ?_) ⟨fun t n ty ls cs h1 h2 h3 hM => ⟨hm.tagAt h1 h2 h3, ?_⟩, fun j o hj hM => ?_⟩⟩
  · have hlt := (List.getElem?_eq_some_iff.1 hj).1
    obtain ⟨g1, g2⟩ := ho j o (by show (ros i ++ rest)[j]? = _; rw [List.getElem?_append_left hlt]; exact hj)
    exact ⟨g1, fun b hb => ⟨(g2 b hb).1, (g2 b hb).2.1.2.2.symm, fun l hl hll => (g2 b hb).2.2 l hl (by show l < (ros i ++ rest).length; rw [List.length_append]; omega)⟩⟩
  · have := (ho.lt (i := j) (by show j < (ros i ++ rest).length; rw [List.length_append]; omega) hf).2.2.1
    exact this.elim .inl fun h => .inr (.inr h)
  · have hnm : n ∈ ns := List.mem_of_getElem? h1
    rintro (⟨_, hlt⟩ | ⟨j, hj, hf⟩)
    · rcases hm.own n hnm with h | h
      · exact absurd hlt (Nat.not_lt.2 h)
      · exact hM n h
    · exact (ho.lt (i := j) (by show j < (ros i ++ rest).length; rw [List.length_append]; omega) hf).2.1 hnm
  · have hj2 : (ros i ++ rest)[(ros i).length + j]? = some o := by rw [List.getElem?_append_right (by omega), Nat.add_sub_cancel_left]; exact hj
    obtain ⟨g1, g2⟩ := ho _ o hj2
    refine ⟨_, g1, fun b hb => ?_⟩
    rintro (⟨_, hlt⟩ | ⟨q, hq, hf⟩)
    · rcases (g2 b hb).2.1.2.2 with h | h
      · exact absurd hlt (Nat.not_lt.2 h)
      · exact hM b h
    · exact (g2 b hb).2.2 q (by omega) (by show q < (ros i ++ rest).length; rw [List.length_append]; omega) hf

/-- A function's end: it hands back a single block, and the first of what else it owns. -/
theorem ret_t {P : Program} {w0 : World} {M X : Nat → Prop} {v : Value} {ι : Type} {val : ι → Value} {ros : ι → List OP} {R : ι → World → (Nat → Prop) → Prop} (i : ι) (t : Nat) {n : Nat} {ty : TypeId} {ls : List Lf} {cs : List Value} (ros' : List OP) {rest : List OP} (hv : v = val i)
    (h1 : ns[t]? = some n) (h2 : hs[t]? = some (.k ty ls)) (h3 : lvL ns ls = some cs) (hros : ros i = structP ty n cs :: ros') (hos : os = ros' ++ rest)
    (hR : ∀ w' E', Later W E w' E' → (∀ (j : Nat) (o : OP), rest[j]? = some o → (∀ b, ¬ M b) → ∃ F, o.φ F w' ∧ ∀ b, F b → ¬ E' b) → R i w' E') : RetVC ⟨P, w0, M, X⟩ ⟨W, E, ns, hs, os, tm⟩ v (Post w0 X M val ros R) := by
  refine ⟨fun w' hm => ?_⟩
  subst hos
  obtain ⟨fp, ho⟩ := hm.osc
  have hnm : n ∈ ns := List.mem_of_getElem? h1
  let fq : Nat → Nat → Prop := fun j b => match j with | 0 => b = n | j + 1 => fp j b
  refine ⟨i, fq, hv, hm.g, fun j o hj => ?_, hR w' _ (hm.laterOut fun j b hj hf => ?_) fun j o hj hM => ?_⟩
  · rw [hros] at hj ⊢
    cases j with
    | zero =>
      simp at hj; subst hj
      refine ⟨⟨fun b => Iff.rfl, hm.tagAt h1 h2 h3⟩, fun b hb => ?_⟩
      have hb : b = n := hb
      rw [hb]
      refine ⟨hm.tag_lt hnm, (hm.own n hnm).symm, fun l hl hll => ?_⟩
      cases l with
      | zero => omega
      | succ l => exact fun hf => (ho.lt (i := l) (by show l < (ros' ++ rest).length; simp at hll; rw [List.length_append]; omega) hf).2.1 hnm
    | succ j =>
      have hj : ros'[j]? = some o := by simpa using hj
      have hlt := (List.getElem?_eq_some_iff.1 hj).1
      obtain ⟨g1, g2⟩ := ho j o (by show (ros' ++ rest)[j]? = _; rw [List.getElem?_append_left hlt]; exact hj)
      refine ⟨g1, fun b hb => ⟨(g2 b hb).1, (g2 b hb).2.1.2.2.symm, fun l hl hll => ?_⟩⟩
      cases l with
      | zero => exact fun e => (g2 b hb).2.1.1 (by have e : b = n := e; rw [e]; exact hnm)
      | succ l => exact (g2 b hb).2.2 l (by omega) (by show l < (ros' ++ rest).length; simp at hll; rw [List.length_append]; omega)
  · rw [hros] at hj
    cases j with
    | zero => exact .inr (.inl (by have hf : b = n := hf; rw [hf]; exact hnm))
    | succ j =>
      have := (ho.lt (i := j) (by show j < (ros' ++ rest).length; simp at hj; rw [List.length_append]; omega) hf).2.2.1
      exact this.elim .inl fun h => .inr (.inr h)
  · have hj2 : (ros' ++ rest)[ros'.length + j]? = some o := by rw [List.getElem?_append_right (by omega), Nat.add_sub_cancel_left]; exact hj
    obtain ⟨g1, g2⟩ := ho _ o hj2
    refine ⟨_, g1, fun b hb => ?_⟩
    rintro (⟨_, hlt⟩ | ⟨q, hq, hf⟩)
    · rcases (g2 b hb).2.1.2.2 with h | h
      · exact absurd hlt (Nat.not_lt.2 h)
      · exact hM b h
    · cases q with
      | zero => exact (g2 b hb).2.1.1 (by have hf : b = n := hf; rw [hf]; exact hnm)
      | succ q => rw [hros, List.length_cons] at hq; exact (g2 b hb).2.2 q (by omega) (by show q < (ros' ++ rest).length; simp at hq; rw [List.length_append]; omega) hf


/-! ### another order of what is owned -/
def memN (n : Nat) : List Nat → Bool
  | [] => false
  | a :: l => match Nat.beq n a with
    | true => true
    | false => memN n l
theorem memN_iff {n : Nat} : ∀ {l : List Nat}, memN n l = true ↔ n ∈ l
  | [] => by simp [memN]
  | a :: l => by
    unfold memN
    cases h : Nat.beq n a with
    | true => simp only [List.mem_cons, true_iff]; exact .inl (Nat.eq_of_beq_eq_true h)
    | false =>
      simp only [memN_iff (l := l), List.mem_cons]
      exact ⟨.inr, fun h' => h'.resolve_left (Nat.ne_of_beq_eq_false h)⟩
def getO : List OP → Nat → Option OP
  | [], _ => none
  | o :: _, 0 => some o
  | _ :: l, n + 1 => getO l n
theorem getO_eq : ∀ (l : List OP) (n : Nat), getO l n = l[n]?
  | [], _ => by simp [getO]
  | o :: _, 0 => by simp [getO]
  | _ :: l, n + 1 => by simp [getO, getO_eq l n]
def selO (os : List OP) : List Nat → Option (List OP)
  | [] => some []
  | i :: σ => match memN i σ, getO os i, selO os σ with
    | false, some o, some l => some (o :: l)
    | _, _, _ => none
theorem selO_get {os : List OP} : ∀ {σ : List Nat} {l : List OP}, selO os σ = some l → σ.Nodup ∧ l.length = σ.length ∧ ∀ (j : Nat) (o : OP), l[j]? = some o → os[σ.getD j 0]? = some o
  | [], l, h => by simp [selO] at h; subst h; simp
  | i :: σ, l, h => by
    unfold selO at h
    split at h
    · rename_i o l' h1 h2 h3
      simp only [Option.some.injEq] at h; subst h
      obtain ⟨g1, g2, g3⟩ := selO_get h3
      refine ⟨List.nodup_cons.2 ⟨fun hm => (by rw [memN_iff.2 hm] at h1; cases h1), g1⟩, by simp [g2], fun j o' hj => ?_⟩
      cases j with
      | zero => simp at hj; subst hj; rw [← getO_eq]; exact h2
      | succ j => have := g3 j o' (by simpa using hj); simpa using this
    · cases h
theorem Mod.sel {S : St} {w : World} (h : Mod C S w) {σ : List Nat} {l : List OP} (hs : selO S.os σ = some l) : Mod C ⟨S.W, S.E, S.ns, S.hs, l, S.tm⟩ w := by
  obtain ⟨g1, g2, g3⟩ := selO_get hs
  obtain ⟨fp, ho⟩ := h.osc
  refine ⟨h.g, h.le0, h.size, h.old, h.len, h.blk, h.nodup, h.sep, h.own, h.exb, h.base, fun j => fp (σ.getD j 0), fun j o hj => ?_⟩
  have hj : l[j]? = some o := hj
  have hjl := (List.getElem?_eq_some_iff.1 hj).1
  obtain ⟨k1, k2⟩ := ho _ o (g3 j o hj)
  refine ⟨k1, fun b hb => ⟨(k2 b hb).1, (k2 b hb).2.1, fun q hq hql => ?_⟩⟩
  have hql : q < l.length := hql
  obtain ⟨o', ho'⟩ : ∃ o', l[q]? = some o' := ⟨_, List.getElem?_eq_getElem hql⟩
  refine (k2 b hb).2.2 _ (fun e => ?_) (List.getElem?_eq_some_iff.1 (g3 q o' ho')).1
  rw [List.getD_eq_getElem?_getD, List.getD_eq_getElem?_getD, List.getElem?_eq_getElem (by omega), List.getElem?_eq_getElem (by omega)] at e
  exact hq ((List.getElem_inj g1).1 e)
def optK {α : Type} (o : Option α) (k : α → Prop) : Prop :=
  match o with
  | some a => k a
  | none => False
theorem ret_sel (σ : List Nat) {v : Value} {R : Value → World → Prop} (h : optK (selO os σ) fun os => RetVC C ⟨W, E, ns, hs, os, tm⟩ v R) : RetVC C ⟨W, E, ns, hs, os, tm⟩ v R := by
  cases e : selO os σ with
  | none => rw [e] at h; cases h
  | some l => rw [e] at h; exact ⟨fun w hm => h.go w (hm.sel (S := ⟨W, E, ns, hs, os, tm⟩) e)⟩
theorem call_sel (σ : List Nat) {fv : Value} {args : List Value} (h : optK (selO os σ) fun os => CallVC C m fv args ⟨W, E, ns, hs, os, tm⟩ k) : CallVC C m fv args ⟨W, E, ns, hs, os, tm⟩ k := by
  cases e : selO os σ with
  | none => rw [e] at h; cases h
  | some l => rw [e] at h; exact ⟨fun w hm => by
      obtain h1 := h.go w (hm.sel (S := ⟨W, E, ns, hs, os, tm⟩) e)
      exact h1.mono fun v w' ⟨g1, S', r, g2, g3⟩ => ⟨g1, S', r, fun a ha => g2 a ⟨ha.d, ha.t⟩, g3⟩⟩
theorem loop_sel (σ : List Nat) {body : Code} {K : Exit → St → Prop} (h : optK (selO os σ) fun os => LoopVC C T body ⟨W, E, ns, hs, os, tm⟩ K) : LoopVC C T body ⟨W, E, ns, hs, os, tm⟩ K := by
  cases e : selO os σ with
  | none => rw [e] at h; cases h
  | some l => rw [e] at h; exact ⟨fun a w ha hm => h.go a w ⟨ha.d, ha.t⟩ (hm.sel (S := ⟨W, E, ns, hs, os, tm⟩) e)⟩

end
end Go.Ev
