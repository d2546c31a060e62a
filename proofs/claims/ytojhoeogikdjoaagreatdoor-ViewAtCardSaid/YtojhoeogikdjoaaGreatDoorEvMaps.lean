/- A symbolic walk: maps: make, look up, write, delete, clear; conditions: of the key's type. -/
import Derived.Test.YtojhoeogikdjoaaGreatDoorEvEq
set_option linter.unusedSimpArgs false
set_option linter.unusedVariables false
set_option linter.unusedSectionVars false
namespace Go.Ev
open Go.RowKit

section
variable {K V : Type} [DecidableEq K]

def ents (ek : K → Value) (ev : V → Value) (kvs : List (K × V × Nat)) : List MapEntry := kvs.map fun e => ⟨ek e.1, ev e.2.1, e.2.2⟩
structure MapAt (O : Nat → Prop) (W : World) (E : Nat → Prop) (r : Nat) (ek : K → Value) (ev : V → Value) (kvs : List (K × V × Nat)) (clock : Nat) : Prop where
  at_ : W.heap[r]? = some (.map (ents ek ev kvs).toArray clock)
  free : ¬ E r
  own : O r
  nodup : (kvs.map (·.1)).Nodup
  born : ∀ e ∈ kvs, e.2.2 < clock
  stamps : (kvs.map (·.2.2)).Nodup

theorem MapAt.mono {O O' : Nat → Prop} {W : World} {E E' : Nat → Prop} {r : Nat} {ek : K → Value} {ev : V → Value} {kvs : List (K × V × Nat)} {clock : Nat} (h : MapAt O W E r ek ev kvs clock) (ho : O r → O' r) (he : E' r → E r) : MapAt O' W E' r ek ev kvs clock :=
  ⟨h.at_, fun h' => h.free (he h'), ho h.own, h.nodup, h.born, h.stamps⟩
def lk (a : K) (kvs : List (K × V × Nat)) : Option V := (kvs.find? fun e => e.1 = a).map (·.2.1)
theorem lk_nil (a : K) : lk a ([] : List (K × V × Nat)) = none := rfl
def upd (a : K) (v : V) (clock : Nat) (kvs : List (K × V × Nat)) : List (K × V × Nat) :=
  if a ∈ kvs.map (·.1) then kvs.map fun e => if e.1 = a then (e.1, v, e.2.2) else e else kvs ++ [(a, v, clock)]
def updC (a : K) (clock : Nat) (kvs : List (K × V × Nat)) : Nat := if a ∈ kvs.map (·.1) then clock else clock + 1
def del (a : K) (kvs : List (K × V × Nat)) : List (K × V × Nat) := kvs.filter fun e => e.1 ≠ a

theorem run_find {P : Program} {kt : TypeId} {ek : K → Value} {ev : V → Value} (hk : KeyOK P kt ek) {kvs : List (K × V × Nat)} (hn : (kvs.map (·.1)).Nodup) (w : World) (a : K) :
    ∃ r, (Instr.findKey kt (ek a) (ents ek ev kvs)).run P w = .ok r w ∧ match r with
      | none => a ∉ kvs.map (·.1) ∧ lk a kvs = none
      | some (i, v) => ∃ e, kvs[i]? = some e ∧ e.1 = a ∧ ev e.2.1 = v ∧ lk a kvs = some e.2.1 ∧ a ∈ kvs.map (·.1) := by
  obtain ⟨r, hr, hm⟩ := hk.find w a (ents ek ev kvs) (by intro e he; unfold ents at he; obtain ⟨x, _, rfl⟩ := List.mem_map.1 he; exact ⟨x.1, rfl⟩)
  refine ⟨r, hr, ?_⟩
  cases r with
  | none =>
    have h1 : a ∉ kvs.map (·.1) := by
      intro ha
      obtain ⟨e, he, rfl⟩ := List.mem_map.1 ha
      exact hm ⟨ek e.1, ev e.2.1, e.2.2⟩ (by unfold ents; exact List.mem_map.2 ⟨e, he, rfl⟩) rfl
    refine ⟨h1, ?_⟩
    unfold lk
    rw [List.find?_eq_none.2]
    · rfl
    · intro e he; simp; exact fun h => h1 (h ▸ List.mem_map.2 ⟨e, he, rfl⟩)
  | some p =>
    obtain ⟨i, v⟩ := p
    obtain ⟨e, h1, h2, h3⟩ := hm
    unfold ents at h1
    rw [List.getElem?_map] at h1
    cases hx : kvs[i]? with
    | none => rw [hx] at h1; cases h1
    | some x =>
      rw [hx] at h1
      simp only [Option.map_some, Option.some.injEq] at h1
      subst h1
      have hxa : x.1 = a := hk.inj _ _ h2
      refine ⟨x, hx, hxa, h3, ?_, hxa ▸ List.mem_map.2 ⟨x, List.mem_of_getElem? hx, rfl⟩⟩
      unfold lk
      have : kvs.find? (fun e => decide (e.1 = a)) = some x := by
        clear hr h3 h2
        induction kvs generalizing i with
        | nil => simp at hx
        | cons y kvs ih =>
          rw [List.map_cons, List.nodup_cons] at hn
          cases i with
          | zero => simp at hx; subst hx; simp [hxa]
          | succ i =>
            have hx' : kvs[i]? = some x := by simpa using hx
            have hy : y.1 ≠ a := fun h => hn.1 (by rw [h, ← hxa]; exact List.mem_map.2 ⟨x, List.mem_of_getElem? hx', rfl⟩)
            rw [List.find?_cons]
            simp only [hy, decide_false]
            exact ih hn.2 i hx'
      rw [this]; rfl

theorem mapErase {α β : Type} (f : α → β) : ∀ (l : List α) (j : Nat), (l.eraseIdx j).map f = (l.map f).eraseIdx j
  | [], _ => rfl
  | _ :: _, 0 => rfl
  | a :: r, j + 1 => by simp [mapErase f r j]
theorem del_erase (a : K) : ∀ (kvs : List (K × V × Nat)) (i : Nat) (e : K × V × Nat), (kvs.map (·.1)).Nodup → kvs[i]? = some e → e.1 = a → del a kvs = kvs.eraseIdx i
  | [], i, e, _, h, _ => by simp at h
  | y :: kvs, i, e, hn, h, ha => by
    rw [List.map_cons, List.nodup_cons] at hn
    cases i with
    | zero =>
      simp at h; subst h
      unfold del
      rw [List.filter_cons]
      simp only [ha, ne_eq, not_true_eq_false, decide_false, Bool.false_eq_true, if_false, List.eraseIdx_cons_zero]
      rw [List.filter_eq_self]
      intro x hx
      simp only [decide_eq_true_eq]
      exact fun hxa => hn.1 (by rw [ha, ← hxa]; exact List.mem_map.2 ⟨x, hx, rfl⟩)
    | succ i =>
      have h' : kvs[i]? = some e := by simpa using h
      have hy : y.1 ≠ a := fun hy => hn.1 (by rw [hy, ← ha]; exact List.mem_map.2 ⟨e, List.mem_of_getElem? h', rfl⟩)
      have ih := del_erase a kvs i e hn.2 h' ha
      unfold del at ih ⊢
      rw [List.filter_cons]
      simp only [hy, ne_eq, not_false_eq_true, decide_true, if_true, List.eraseIdx_cons_succ]
      rw [ih]

def mapTy (P : Program) (t : TypeId) : Option (Nat × Nat) :=
  match P.underlying t with
  | some (.map k e) => some (k, e)
  | _ => none
theorem mapTy_info {P : Program} {t k e : Nat} (h : mapTy P t = some (k, e)) : P.underlying t = some (.map k e) := by
  unfold mapTy at h
  split at h
  · simp only [Option.some.injEq, Prod.mk.injEq] at h; obtain ⟨rfl, rfl⟩ := h; assumption
  · cases h
def zeroOf (P : Program) (e : TypeId) : Option Value := (P.info? e).bind (·.zero)
theorem run_zeroOf {P : Program} {e : TypeId} {z : Value} (h : zeroOf P e = some z) (w : World) : (zeroValue e).run P w = .ok z w := by
  unfold zeroOf at h
  cases hi : P.info? e with
  | none => rw [hi] at h; cases h
  | some i => rw [hi] at h; exact run_zero hi h

theorem run_getObj {P : Program} {w : World} {r : Nat} {es : Array MapEntry} {clock : Nat} (h : w.heap[r]? = some (.map es clock)) : (getObj r).run P w = .ok (.map es clock) w := by
  unfold getObj
  simp only [Sem.run, h]
theorem run_setObj {P : Program} {w : World} {r : Nat} {es : Array MapEntry} {clock : Nat} (o : Obj) (h : w.heap[r]? = some (.map es clock)) : (setObj r o).run P w = .ok () { w with heap := w.heap.setIfInBounds r o } := by
  unfold setObj
  simp only [Sem.run, h]

def At1 (r : Nat) : Nat → Prop := fun g => g = r
theorem gl_set {w : World} {r : Nat} (o : Obj) : Gl w (At1 r) { w with heap := w.heap.setIfInBounds r o } :=
  ⟨rfl, rfl, rfl, by simp, fun k _ hk => by
    show (w.heap.setIfInBounds r o)[k]? = _
    rw [Array.getElem?_setIfInBounds, if_neg (fun h => hk h.symm)]⟩
theorem set_at {w : World} {r : Nat} {o o' : Obj} (h : w.heap[r]? = some o') : (w.heap.setIfInBounds r o)[r]? = some o := by
  rw [Array.getElem?_setIfInBounds, if_pos rfl, if_pos (Array.getElem?_eq_some_iff.1 h).1]

section
variable {P : Program} {O : Nat → Prop} {w : World} {E : Nat → Prop} {r : Nat} {ek : K → Value} {ev : V → Value} {kvs : List (K × V × Nat)} {clock : Nat} {t kt et : Nat}

theorem run_lookup (ht : mapTy P t = some (kt, et)) (hk : KeyOK P kt ek) (h : MapAt O w E r ek ev kvs clock) {z : Value} (hz : zeroOf P et = some z) (ok : Bool) (a : K) :
    (Instr.lookup t (.map (some r)) (ek a) ok).run P w = .ok (match lk a kvs with
      | some v => if ok then .tuple #[ev v, .bool true] else ev v
      | none => if ok then .tuple #[z, .bool false] else z) w := by
  unfold Instr.lookup
  rw [run_bind (run_underlying (mapTy_info ht))]
  simp only
  rw [run_bind (run_getObj h.at_)]
  simp only [pure_bind]
  rw [run_bind (hk.check w _ a)]
  obtain ⟨x, hr, hm⟩ := run_find (ev := ev) hk h.nodup w a
  cases x with
  | none =>
    rw [run_bind hr]
    simp only
    rw [run_bind (run_zeroOf hz w), hm.2]
    cases ok <;> rfl
  | some p =>
    obtain ⟨i, v⟩ := p
    obtain ⟨e, _, _, h3, h4, _⟩ := hm
    rw [run_bind hr]
    simp only
    rw [h4, ← h3]
    cases ok <;> rfl

theorem run_update (ht : mapTy P t = some (kt, et)) (hk : KeyOK P kt ek) (h : MapAt O w E r ek ev kvs clock) (a : K) (v : V) :
    ∃ w', (do Instr.mapUpdate t (.map (some r)) (ek a) (ev v); pure undef : Sem Value).run P w = .ok undef w' ∧ Gl w (At1 r) w' ∧ MapAt O w' E r ek ev (upd a v clock kvs) (updC a clock kvs) := by
  obtain ⟨x, hr, hm⟩ := run_find (ev := ev) hk h.nodup w a
  cases x with
  | none =>
    refine ⟨{ w with heap := w.heap.setIfInBounds r (.map ((ents ek ev kvs).toArray.push { key := ek a, val := ev v, born := clock }) (clock + 1)) }, ?_, gl_set _, ?_⟩
    · rw [run_bind (a := ()) (w' := { w with heap := w.heap.setIfInBounds r (.map ((ents ek ev kvs).toArray.push { key := ek a, val := ev v, born := clock }) (clock + 1)) })]
      · rfl
      · unfold Instr.mapUpdate
        rw [run_bind (run_underlying (mapTy_info ht))]
        simp only
        rw [run_bind (run_getObj h.at_)]
        simp only
        rw [run_bind (hk.check w _ a), run_bind hr]
        exact run_setObj _ h.at_
    · unfold upd updC
      rw [if_neg hm.1, if_neg hm.1]
      refine ⟨?_, h.free, h.own, ?_, ?_, ?_⟩
      · show (w.heap.setIfInBounds r _)[r]? = _
        rw [set_at h.at_]
        simp [ents]
      · rw [List.map_append, List.nodup_append]
        refine ⟨h.nodup, by simp, fun x hx y hy => ?_⟩
        simp at hy; subst hy
        exact fun e => hm.1 (e ▸ hx)
      · intro e he
        rcases List.mem_append.1 he with he | he
        · have := h.born e he; omega
        · simp at he; subst he; simp
      · rw [List.map_append, List.nodup_append]
        refine ⟨h.stamps, by simp, fun x hx y hy => ?_⟩
        simp at hy; subst hy
        obtain ⟨e, he, rfl⟩ := List.mem_map.1 hx
        have := h.born e he; omega
  | some p =>
    obtain ⟨i, v0⟩ := p
    obtain ⟨e, h1, h2, h3, h4, h5⟩ := hm
    have hi : i < kvs.length := (List.getElem?_eq_some_iff.1 h1).1
    have hkey : ((((ents ek ev kvs).toArray[i]?).map (·.key)).getD (ek a)) = ek a := by
      unfold ents; simp [h1, h2]
    refine ⟨{ w with heap := w.heap.setIfInBounds r (.map ((ents ek ev kvs).toArray.modify i fun e => { e with key := ek a, val := ev v }) clock) }, ?_, gl_set _, ?_⟩
    · rw [run_bind (a := ()) (w' := { w with heap := w.heap.setIfInBounds r (.map ((ents ek ev kvs).toArray.modify i fun e => { e with key := ek a, val := ev v }) clock) })]
      · rfl
      · unfold Instr.mapUpdate
        rw [run_bind (run_underlying (mapTy_info ht))]
        simp only
        rw [run_bind (run_getObj h.at_)]
        simp only
        rw [run_bind (hk.check w _ a), run_bind hr]
        simp only
        rw [hkey, run_bind (a := ek a) (w' := w)]
        · exact run_setObj _ h.at_
        · unfold Instr.keyThatStays
          rw [if_pos (hk.same a)]; rfl
    · unfold upd updC
      rw [if_pos h5, if_pos h5]
      have hmap : (ents ek ev kvs).toArray.modify i (fun e => { e with key := ek a, val := ev v }) = (ents ek ev (kvs.map fun e => if e.1 = a then (e.1, v, e.2.2) else e)).toArray := by
        apply Array.ext'
        apply List.ext_getElem?
        intro j
        rw [Array.getElem?_toList, Array.getElem?_modify]
        unfold ents
        simp only [List.getElem?_toArray, List.getElem?_map]
        by_cases hj : i = j
        · subst hj
          simp [h1, h2]
        · rw [if_neg hj]
          cases hx : kvs[j]? with
          | none => rfl
          | some x =>
            have hne : x.1 ≠ a := by
              intro hxa
              have hjl := (List.getElem?_eq_some_iff.1 hx).1
              have hp := List.pairwise_iff_getElem.1 h.nodup
              have e1 : (kvs.map (·.1))[i]'(by simpa using hi) = a := by simp; rw [← h2]; have := (List.getElem?_eq_some_iff.1 h1).2; rw [this]
              have e2 : (kvs.map (·.1))[j]'(by simpa using hjl) = a := by simp; rw [← hxa]; have := (List.getElem?_eq_some_iff.1 hx).2; rw [this]
              rcases Nat.lt_or_gt_of_ne hj with hlt | hlt
              · exact hp i j (by simpa using hi) (by simpa using hjl) hlt (e1.trans e2.symm)
              · exact hp j i (by simpa using hjl) (by simpa using hi) hlt (e2.trans e1.symm)
            simp [hne]
      have hk1 : (kvs.map fun e => if e.1 = a then (e.1, v, e.2.2) else e).map (·.1) = kvs.map (·.1) := by
        rw [List.map_map]; apply List.map_congr_left; intro e _; simp; split <;> rfl
      have hk2 : (kvs.map fun e => if e.1 = a then (e.1, v, e.2.2) else e).map (·.2.2) = kvs.map (·.2.2) := by
        rw [List.map_map]; apply List.map_congr_left; intro e _; simp; split <;> rfl
      refine ⟨?_, h.free, h.own, by rw [hk1]; exact h.nodup, ?_, by rw [hk2]; exact h.stamps⟩
      · show (w.heap.setIfInBounds r _)[r]? = _
        rw [set_at h.at_, hmap]
      · intro e he
        obtain ⟨x, hx, rfl⟩ := List.mem_map.1 he
        have := h.born x hx
        split <;> simpa using this

theorem run_delete (ht : mapTy P t = some (kt, et)) (hk : KeyOK P kt ek) (h : MapAt O w E r ek ev kvs clock) (a : K) (ats : Array TypeId) (h0 : ats[0]? = some t) (ty : TypeId) :
    ∃ w', (Builtin.delete_ ats ty #[.map (some r), ek a]).run P w = .ok undef w' ∧ Gl w (At1 r) w' ∧ MapAt O w' E r ek ev (del a kvs) clock := by
  obtain ⟨x, hr, hm⟩ := run_find (ev := ev) hk h.nodup w a
  have fin : ∀ es : List MapEntry, es = ents ek ev (del a kvs) → MapAt O { w with heap := w.heap.setIfInBounds r (.map es.toArray clock) } E r ek ev (del a kvs) clock := by
    rintro es rfl
    refine ⟨set_at h.at_, h.free, h.own, ?_, fun e he => h.born e ((List.mem_filter.1 he).1), ?_⟩
    · exact h.nodup.sublist (List.Sublist.map _ List.filter_sublist)
    · exact h.stamps.sublist (List.Sublist.map _ List.filter_sublist)
  have head : ∀ w', (do
      let r' ← Instr.findKey kt (ek a) (ents ek ev kvs)
      match r' with
      | some (i, _) => (do setObj r (.map ((ents ek ev kvs).toArray.eraseIdxIfInBounds i) clock); pure (.tuple #[]))
      | none => (do setObj r (.map (ents ek ev kvs).toArray clock); pure (.tuple #[])) : Sem Value).run P w = .ok undef w' → (Builtin.delete_ ats ty #[.map (some r), ek a]).run P w = .ok undef w' := by
    intro w' hw
    unfold Builtin.delete_
    simp only [h0, List.getElem?_toArray, List.getElem?_cons_zero, List.getElem?_cons_succ]
    rw [run_bind (run_underlying (mapTy_info ht))]
    simp only
    rw [run_bind (run_getObj h.at_)]
    simp only
    rw [run_bind (hk.check w _ a)]
    exact hw
  cases x with
  | none =>
    refine ⟨{ w with heap := w.heap.setIfInBounds r (.map (ents ek ev kvs).toArray clock) }, head _ ?_, gl_set _, fin _ ?_⟩
    · rw [run_bind hr]
      simp only
      rw [run_bind (run_setObj _ h.at_)]; rfl
    · have : del a kvs = kvs := by
        unfold del
        rw [List.filter_eq_self]
        intro e he; simp; exact fun h => hm.1 (h ▸ List.mem_map.2 ⟨e, he, rfl⟩)
      rw [this]
  | some p =>
    obtain ⟨i, v0⟩ := p
    obtain ⟨e, h1, h2, h3, h4, h5⟩ := hm
    refine ⟨{ w with heap := w.heap.setIfInBounds r (.map ((ents ek ev kvs).toArray.eraseIdxIfInBounds i) clock) }, head _ ?_, gl_set _, ?_⟩
    · rw [run_bind hr]
      simp only
      rw [run_bind (run_setObj _ h.at_)]; rfl
    · have he : (ents ek ev kvs).toArray.eraseIdxIfInBounds i = ((ents ek ev kvs).eraseIdx i).toArray := by simp
      rw [he]
      refine fin _ ?_
      have hd : del a kvs = kvs.eraseIdx i := del_erase a kvs i e h.nodup h1 h2
      rw [hd]; unfold ents; rw [mapErase]

theorem run_clear (ht : mapTy P t = some (kt, et)) (h : MapAt O w E r ek ev kvs clock) (ats : Array TypeId) (h0 : ats[0]? = some t) (ty : TypeId) :
    ∃ w', (Builtin.clear_ ats ty #[.map (some r)]).run P w = .ok undef w' ∧ Gl w (At1 r) w' ∧ MapAt O w' E r ek ev [] clock := by
  refine ⟨{ w with heap := w.heap.setIfInBounds r (.map #[] clock) }, ?_, gl_set _, ⟨set_at h.at_, h.free, h.own, by simp, by simp, by simp⟩⟩
  simp only [Builtin.clear_, h0, List.getElem?_toArray, List.getElem?_cons_zero]
  rw [run_bind (run_underlying (mapTy_info ht))]
  rw [run_bind (run_getObj h.at_)]
  rw [run_bind (run_setObj _ h.at_)]; rfl

end

/-- An iterator over a map: which entries have been seen, the last one first. -/
structure IterAt (O : Nat → Prop) (W : World) (E : Nat → Prop) (it r since : Nat) (seen : List Nat) (clock : Nat) : Prop where
  at_ : W.heap[it]? = some (.mapIter (some r) since seen.reverse.toArray clock)
  free : ¬ E it
  own : O it

theorem run_getObj' {P : Program} {w : World} {r : Nat} {o : Obj} (h : w.heap[r]? = some o) (hc : (match o with | .cells .. => false | _ => true) = true) : (getObj r).run P w = .ok o w := by
  unfold getObj
  simp only [Sem.run, h]
  cases o <;> first | rfl | cases hc
theorem run_setObj' {P : Program} {w : World} {r : Nat} {o : Obj} (o' : Obj) (h : w.heap[r]? = some o) (hc : (match o with | .cells .. => false | _ => true) = true) : (setObj r o').run P w = .ok () { w with heap := w.heap.setIfInBounds r o' } := by
  unfold setObj
  simp only [Sem.run, h]
  cases o <;> first | rfl | cases hc

theorem ents_mem {K V : Type} {ek : K → Value} {ev : V → Value} {kvs : List (K × V × Nat)} {x : MapEntry} (h : x ∈ ents ek ev kvs) : ∃ e ∈ kvs, x = ⟨ek e.1, ev e.2.1, e.2.2⟩ := by
  unfold ents at h
  obtain ⟨e, he, rfl⟩ := List.mem_map.1 h
  exact ⟨e, he, rfl⟩
theorem run_chooseNext {P : Program} (w : World) (n : Nat) (hn : 0 < n) : ∃ i d, i < n ∧ (choose (.mapNext n)).run P w = .ok i { w with drawn := d } := by
  by_cases h : n ≤ 1
  · refine ⟨0, w.drawn, hn, ?_⟩
    unfold choose
    simp only [Sem.run, Question.forced, h, decide_true, if_true]
  · refine ⟨w.tape w.drawn (.mapNext n) % n, w.drawn + 1, Nat.mod_lt _ hn, ?_⟩
    unfold choose
    simp only [Sem.run, Question.forced, h, decide_false, Bool.false_eq_true, if_false, Question.cut]

section
variable {K V : Type} [DecidableEq K] {P : Program} {O : Nat → Prop} {w : World} {E : Nat → Prop} {it r since : Nat} {seen : List Nat} {ek : K → Value} {ev : V → Value} {kvs : List (K × V × Nat)} {clock : Nat} {ty : TypeId}

/-- What the next step of an iterator comes to: an entry that has not been seen, or the end. -/
theorem run_next (hi : IterAt O w E it r since seen clock) (hm : MapAt O w E r ek ev kvs clock) (hs : ∀ e ∈ kvs, e.2.2 < since) :
    (∃ n, (∀ e ∈ kvs, e.2.2 ∈ seen) ∧ (Instr.next (.pointer (some ⟨it, 0, none⟩)) false ty).run P w = .ok (.tuple #[.bool false]) { w with drawn := n }) ∨
    (∃ e w', e ∈ kvs ∧ e.2.2 ∉ seen ∧ (Instr.next (.pointer (some ⟨it, 0, none⟩)) false ty).run P w = .ok (.tuple #[.bool true, ek e.1, ev e.2.1]) w' ∧ Gl w (At1 it) w' ∧ w'.heap[it]? = some (.mapIter (some r) since (e.2.2 :: seen).reverse.toArray clock)) := by
  have hcond : (!(seen.reverse.toArray).isEmpty && !(ents ek ev kvs).toArray.isEmpty && (ents ek ev kvs).toArray.all (fun x => decide (x.born ≥ clock))) = false := by
    cases hk : kvs with
    | nil => simp [ents]
    | cons e es =>
      have : e.2.2 < clock := hm.born e (by rw [hk]; simp)
      simp [ents]
      intro _ h
      omega
  have hnew : ((ents ek ev kvs).toArray.filter (fun e => !seen.reverse.toArray.contains e.born)).filter (fun e => decide (e.born ≥ since)) = #[] := by
    apply Array.ext'
    simp only [Array.toList_filter, List.filter_eq_nil_iff]
    intro x hx
    have hx : x ∈ (ents ek ev kvs).toArray.toList := (List.mem_filter.1 hx).1
    rw [List.toList_toArray] at hx
    obtain ⟨e, he, rfl⟩ := ents_mem hx
    have := hs e he
    simp; omega
  have hold : ((ents ek ev kvs).toArray.filter (fun e => !seen.reverse.toArray.contains e.born)).filter (fun e => decide (e.born < since)) = (ents ek ev kvs).toArray.filter (fun e => !seen.reverse.toArray.contains e.born) := by
    apply Array.ext'
    simp only [Array.toList_filter, List.filter_eq_self]
    intro x hx
    have hx : x ∈ (ents ek ev kvs).toArray.toList := (List.mem_filter.1 hx).1
    rw [List.toList_toArray] at hx
    obtain ⟨e, he, rfl⟩ := ents_mem hx
    have := hs e he
    simpa using this
  generalize hL : (ents ek ev kvs).toArray.filter (fun e => !seen.reverse.toArray.contains e.born) = L at hnew hold
  have hmem : ∀ x ∈ L, ∃ e ∈ kvs, e.2.2 ∉ seen ∧ x = ⟨ek e.1, ev e.2.1, e.2.2⟩ := by
    intro x hx
    rw [← hL] at hx
    have h1 := Array.mem_filter.1 hx
    obtain ⟨e, he, rfl⟩ := ents_mem (List.mem_toArray.1 h1.1)
    exact ⟨e, he, by simpa using h1.2, rfl⟩
  have hpos : 0 < ((if L.isEmpty then #[none] else #[]) ++ (L ++ #[]).map some : Array (Option MapEntry)).size := by
    cases hl : L.isEmpty with
    | true => simp only [if_true, Array.size_append]; simp; omega
    | false => simp at hl ⊢; exact Array.size_pos_iff.2 hl
  obtain ⟨i, d, hi', hch⟩ := run_chooseNext (P := P) w _ hpos
  have hrun : ∀ c, ((if L.isEmpty then #[none] else #[]) ++ (L ++ #[]).map some : Array (Option MapEntry))[i]? = some c → (Instr.next (.pointer (some ⟨it, 0, none⟩)) false ty).run P w = (match c with
      | some e => (do setObj it (.mapIter (some r) since (seen.reverse.toArray.push e.born) clock); pure (.tuple #[.bool true, e.key, e.val]) : Sem Value)
      | none => pure (.tuple #[.bool false])).run P { w with drawn := d } := by
    intro c hc
    unfold Instr.next
    simp only
    rw [run_bind (run_getObj' hi.at_ rfl)]
    simp only
    rw [run_bind (run_getObj hm.at_)]
    simp only [hcond, Bool.false_eq_true, if_false, hL, hold, hnew]
    rw [run_bind hch]
    rw [hc]
    cases c <;> rfl
  have hget : ∃ c, ((if L.isEmpty then #[none] else #[]) ++ (L ++ #[]).map some : Array (Option MapEntry))[i]? = some c := ⟨_, Array.getElem?_eq_getElem hi'⟩
  obtain ⟨c, hc⟩ := hget
  have hr := hrun c hc
  cases hl : L.isEmpty with
  | true =>
    left
    have hL0 : L = #[] := by simpa using hl
    subst hL0
    simp at hc
    have : c = none := by
      cases i with
      | zero => simp at hc; exact hc.symm
      | succ i => simp at hc
    subst this
    refine ⟨d, ?_, hr⟩
    intro e he
    have h0 : (⟨ek e.1, ev e.2.1, e.2.2⟩ : MapEntry) ∉ (ents ek ev kvs).toArray.filter (fun e => !seen.reverse.toArray.contains e.born) := by rw [hL]; simp
    rw [Array.mem_filter] at h0
    apply Classical.byContradiction
    intro hn
    exact h0 ⟨by simp [ents]; exact ⟨_, _, _, he, rfl, rfl, rfl⟩, by simpa using hn⟩
  | false =>
    right
    simp [hl] at hc
    obtain ⟨x, hx, rfl⟩ := hc
    obtain ⟨e, he, hns, rfl⟩ := hmem x (Array.mem_of_getElem? hx)
    have hat : ({ w with drawn := d } : World).heap[it]? = some (.mapIter (some r) since seen.reverse.toArray clock) := hi.at_
    refine ⟨e, _, he, hns, by rw [hr]; simp only; rw [run_bind (run_setObj' _ hat rfl)]; rfl, ?_, ?_⟩
    · exact Gl.trans (Gl.drawn d) (gl_set _)
    · show (w.heap.setIfInBounds it _)[it]? = _
      rw [set_at hi.at_]; simp

theorem run_entry (hi : IterAt O w E it r since seen clock) (hm : MapAt O w E r ek ev kvs clock) {e : K × V × Nat} {s : List Nat} (he : e ∈ kvs) (hs : seen = e.2.2 :: s) :
    (Instr.entry (.pointer (some ⟨it, 0, none⟩))).run P w = .ok (.tuple #[ek e.1, ev e.2.1]) w := by
  subst hs
  unfold Instr.entry
  simp only
  rw [run_bind (run_getObj' hi.at_ rfl)]
  have hb : (List.reverse (e.2.2 :: s)).toArray.back? = some e.2.2 := by simp [Array.back?]
  dsimp only
  rw [hb]
  dsimp only
  rw [run_bind (run_getObj hm.at_)]
  simp only [bne_self_eq_false, Bool.false_eq_true, if_false]
  have hf : (ents ek ev kvs).toArray.find? (fun x => x.born == e.2.2) = some ⟨ek e.1, ev e.2.1, e.2.2⟩ := by
    rw [List.find?_toArray]
    have hn := hm.stamps
    clear hm hi
    unfold ents
    induction kvs with
    | nil => simp at he
    | cons y kvs ih =>
      rw [List.map_cons, List.nodup_cons] at hn
      rw [List.map_cons, List.find?_cons]
      by_cases hy : y.2.2 = e.2.2
      · simp only [hy, beq_self_eq_true]
        rcases List.mem_cons.1 he with rfl | he'
        · rfl
        · exact absurd (List.mem_map.2 ⟨e, he', hy.symm⟩) hn.1
      · simp only [beq_eq_false_iff_ne.2 hy]
        rcases List.mem_cons.1 he with rfl | he'
        · exact absurd rfl hy
        · exact ih he' hn.2
  rw [hf]; rfl

theorem run_range (t : TypeId) {kt et : Nat} (ht : mapTy P t = some (kt, et)) (hm : MapAt O w E r ek ev kvs clock) :
    (Instr.range t (.map (some r))).run P w = .ok (.pointer (some ⟨w.heap.size, 0, none⟩)) { w with heap := w.heap.push (.mapIter (some r) clock #[] clock) } := by
  unfold Instr.range
  rw [run_bind (run_underlying (mapTy_info ht))]
  simp only
  rw [run_bind (run_getObj hm.at_)]
  rfl

end


/-! ### maps that are owned -/
def mapP (r : Nat) (ek : K → Value) (ev : V → Value) (kvs : List (K × V × Nat)) (clock : Nat) : OP where
  φ F w := MapAt F w NoE r ek ev kvs clock
  loc F w w' h hs := ⟨(hs r h.own).trans h.at_, h.free, h.own, h.nodup, h.born, h.stamps⟩
def iterP (it r since : Nat) (seen : List Nat) (clock : Nat) : OP where
  φ F w := IterAt F w NoE it r since seen clock
  loc F w w' h hs := ⟨(hs it h.own).trans h.at_, h.free, h.own⟩

/-- A map that is data. -/
structure MapD (r : Nat) (ek : K → Value) (ev : V → Value) (kvs : List (K × V × Nat)) (clock : Nat) (W : World) (E : Nat → Prop) : Prop where
  at_ : MapAt (fun _ => True) W E r ek ev kvs clock
instance (r : Nat) (ek : K → Value) (ev : V → Value) (kvs : List (K × V × Nat)) (clock : Nat) : Stb (MapD r ek ev kvs clock) :=
  ⟨fun h hl => by
    obtain ⟨h1, h2⟩ := hl.old r (Array.getElem?_eq_some_iff.1 h.at_.at_).1 h.at_.free
    exact ⟨h2.trans h.at_.at_, h1, trivial, h.at_.nodup, h.at_.born, h.at_.stamps⟩⟩

/-- What is read of a map, in all worlds of the class. -/
structure MapRd (S : St) (r : Nat) (ek : K → Value) (ev : V → Value) (kvs : List (K × V × Nat)) (clock : Nat) : Prop where
  go : ∀ (C : Ctx) (w : World), Mod C S w → MapAt (fun _ => True) w NoE r ek ev kvs clock

section
variable {C : Ctx} {T : Tr} {m : Bool} {k : AV → St → Prop} {W : World} {E : Nat → Prop} {ns : List Nat} {hs : List HB} {os : List OP} {tm : List AV}
  {r : Nat} {ek : K → Value} {ev : V → Value} {kvs : List (K × V × Nat)} {clock : Nat} {t kt et : Nat}

theorem MapD.rd (h : MapD r ek ev kvs clock W E) : MapRd ⟨W, E, ns, hs, os, tm⟩ r ek ev kvs clock :=
  ⟨fun C w hm => by
    have := stb_later hm.all (MapD r ek ev kvs clock) h
    exact this.at_⟩
theorem rd_map (i : Nat) (hi : os[i]? = some (mapP r ek ev kvs clock)) : MapRd ⟨W, E, ns, hs, os, tm⟩ r ek ev kvs clock :=
  ⟨fun C w hm => by
    obtain ⟨fp, ho⟩ := hm.osc
    have h : MapAt (fp i) w NoE r ek ev kvs clock := (ho i _ hi).1
    exact h.mono (fun _ => trivial) (fun h => h)⟩

theorem r_lookup2 (h : MapRd ⟨W, E, ns, hs, os, tm⟩ r ek ev kvs clock) (ht : mapTy C.P t = some (kt, et)) (hk : KeyOK C.P kt ek) {z : Value} (hz : zeroOf C.P et = some z) {kv : Value} (a : K) (hkv : kv = ek a)
    (h1 : ∀ v, lk a kvs = some v → force (ofVal (.tuple #[ev v, .bool true])) fun r => k r ⟨W, E, ns, hs, os, tm⟩) (h2 : lk a kvs = none → force (ofVal (.tuple #[z, .bool false])) fun r => k r ⟨W, E, ns, hs, os, tm⟩) :
    SemVC C m (Instr.lookup t (.map (some r)) kv true) ⟨W, E, ns, hs, os, tm⟩ k := by
  subst hkv
  cases hl : lk a kvs with
  | some v => exact sem_q (fun w hw => by rw [run_lookup ht hk (h.go C w hw) hz, hl]; rfl) (h1 v hl)
  | none => exact sem_q (fun w hw => by rw [run_lookup ht hk (h.go C w hw) hz, hl]; rfl) (h2 hl)
theorem r_lookup1 (h : MapRd ⟨W, E, ns, hs, os, tm⟩ r ek ev kvs clock) (ht : mapTy C.P t = some (kt, et)) (hk : KeyOK C.P kt ek) {z : Value} (hz : zeroOf C.P et = some z) {kv : Value} (a : K) (hkv : kv = ek a)
    (h1 : ∀ v, lk a kvs = some v → force (ofVal (ev v)) fun r => k r ⟨W, E, ns, hs, os, tm⟩) (h2 : lk a kvs = none → force (ofVal z) fun r => k r ⟨W, E, ns, hs, os, tm⟩) :
    SemVC C m (Instr.lookup t (.map (some r)) kv false) ⟨W, E, ns, hs, os, tm⟩ k := by
  subst hkv
  cases hl : lk a kvs with
  | some v => exact sem_q (fun w hw => by rw [run_lookup ht hk (h.go C w hw) hz, hl]; rfl) (h1 v hl)
  | none => exact sem_q (fun w hw => by rw [run_lookup ht hk (h.go C w hw) hz, hl]; rfl) (h2 hl)

/-- A key that is there. -/
theorem r_lookup2S (h : MapRd ⟨W, E, ns, hs, os, tm⟩ r ek ev kvs clock) (ht : mapTy C.P t = some (kt, et)) (hk : KeyOK C.P kt ek) {z : Value} (hz : zeroOf C.P et = some z) {kv : Value} (a : K) (hkv : kv = ek a) (v : V) (hl : lk a kvs = some v)
    (h1 : force (ofVal (.tuple #[ev v, .bool true])) fun r => k r ⟨W, E, ns, hs, os, tm⟩) : SemVC C m (Instr.lookup t (.map (some r)) kv true) ⟨W, E, ns, hs, os, tm⟩ k := by
  subst hkv
  exact sem_q (fun w hw => by rw [run_lookup ht hk (h.go C w hw) hz, hl]; rfl) h1
theorem sem_map (i : Nat) {s : Sem Value} {kvs' : List (K × V × Nat)} {clock' : Nat} (hi : os[i]? = some (mapP r ek ev kvs clock)) (hm : m = false)
    (hr : ∀ F w, MapAt F w NoE r ek ev kvs clock → ∃ w', s.run C.P w = .ok undef w' ∧ Gl w (At1 r) w' ∧ MapAt F w' NoE r ek ev kvs' clock')
    (hk : setO os i (mapP r ek ev kvs' clock') fun os => k (.one (.v undef)) ⟨W, E, ns, hs, os, tm⟩) : SemVC C m s ⟨W, E, ns, hs, os, tm⟩ k := by
  refine sem_o (ι := Unit) i (fun _ => undef) (fun _ => mapP r ek ev kvs' clock') hi ?_ hm ?_
  · intro F w hmod hmap hlt
    have hmap : MapAt F w NoE r ek ev kvs clock := hmap
    obtain ⟨w', h1, h2, h3⟩ := hr F w hmap
    exact ⟨(), w', F, h1, h2.mono (by rintro b rfl; exact hmap.own), h3, fun b hb => ⟨Nat.lt_of_lt_of_le (hlt b hb) h2.size, .inl hb⟩⟩
  · rintro ⟨⟩
    rw [setO_eq] at hk ⊢
    rw [force_eq]; exact hk
theorem r_update (i : Nat) (hi : os[i]? = some (mapP r ek ev kvs clock)) (ht : mapTy C.P t = some (kt, et)) (hk : KeyOK C.P kt ek) {kv vv : Value} (a : K) (v : V) (hkv : kv = ek a) (hvv : vv = ev v) (hm : m = false)
    (hk' : setO os i (mapP r ek ev (upd a v clock kvs) (updC a clock kvs)) fun os => k (.one (.v undef)) ⟨W, E, ns, hs, os, tm⟩) : SemVC C m (do Instr.mapUpdate t (.map (some r)) kv vv; pure undef) ⟨W, E, ns, hs, os, tm⟩ k := by
  subst hkv; subst hvv
  exact sem_map i hi hm (fun F w hw => run_update ht hk hw a v) hk'
theorem r_delete (i : Nat) (hi : os[i]? = some (mapP r ek ev kvs clock)) {ats : Array TypeId} {ty : TypeId} (h0 : ats[0]? = some t) (ht : mapTy C.P t = some (kt, et)) (hk : KeyOK C.P kt ek) {kv : Value} (a : K) (hkv : kv = ek a) (hm : m = false)
    (hk' : setO os i (mapP r ek ev (del a kvs) clock) fun os => k (.one (.v undef)) ⟨W, E, ns, hs, os, tm⟩) : SemVC C m (Builtin.delete_ ats ty #[.map (some r), kv]) ⟨W, E, ns, hs, os, tm⟩ k := by
  subst hkv
  exact sem_map i hi hm (fun F w hw => run_delete ht hk hw a ats h0 ty) hk'
theorem upd_new {a : K} {v : V} {c : Nat} {kvs : List (K × V × Nat)} (h : a ∉ kvs.map (·.1)) : upd a v c kvs = kvs ++ [(a, v, c)] ∧ updC a c kvs = c + 1 := by unfold upd updC; rw [if_neg h, if_neg h]; exact ⟨rfl, rfl⟩
theorem del_none {a : K} {kvs : List (K × V × Nat)} (h : a ∉ kvs.map (·.1)) : del a kvs = kvs := by
  unfold del
  rw [List.filter_eq_self]
  intro e he; simp; exact fun h' => h (h' ▸ List.mem_map.2 ⟨e, he, rfl⟩)
/-- A key that is not there yet. -/
theorem r_insert (i : Nat) (hi : os[i]? = some (mapP r ek ev kvs clock)) (ht : mapTy C.P t = some (kt, et)) (hk : KeyOK C.P kt ek) {kv vv : Value} (a : K) (v : V) (hkv : kv = ek a) (hvv : vv = ev v) (hm : m = false) (ha : a ∉ kvs.map (·.1))
    (hk' : setO os i (mapP r ek ev (kvs ++ [(a, v, clock)]) (clock + 1)) fun os => k (.one (.v undef)) ⟨W, E, ns, hs, os, tm⟩) : SemVC C m (do Instr.mapUpdate t (.map (some r)) kv vv; pure undef) ⟨W, E, ns, hs, os, tm⟩ k := by
  subst hkv; subst hvv
  exact sem_map i hi hm (fun F w hw => by have := run_update ht hk hw a v; rwa [(upd_new (v := v) ha).1, (upd_new (v := v) ha).2] at this) hk'
/-- A key that is not there. -/
theorem r_delete0 (i : Nat) (hi : os[i]? = some (mapP r ek ev kvs clock)) {ats : Array TypeId} {ty : TypeId} (h0 : ats[0]? = some t) (ht : mapTy C.P t = some (kt, et)) (hk : KeyOK C.P kt ek) {kv : Value} (a : K) (hkv : kv = ek a) (hm : m = false) (ha : a ∉ kvs.map (·.1))
    (hk' : setO os i (mapP r ek ev kvs clock) fun os => k (.one (.v undef)) ⟨W, E, ns, hs, os, tm⟩) : SemVC C m (Builtin.delete_ ats ty #[.map (some r), kv]) ⟨W, E, ns, hs, os, tm⟩ k := by
  subst hkv
  exact sem_map i hi hm (fun F w hw => by have := run_delete ht hk hw a ats h0 ty; rwa [del_none ha] at this) hk'
theorem r_clear (i : Nat) (hi : os[i]? = some (mapP r ek ev kvs clock)) {ats : Array TypeId} {ty : TypeId} (h0 : ats[0]? = some t) (ht : mapTy C.P t = some (kt, et)) (hm : m = false)
    (hk' : setO os i (mapP r ek ev [] clock) fun os => k (.one (.v undef)) ⟨W, E, ns, hs, os, tm⟩) : SemVC C m (Builtin.clear_ ats ty #[.map (some r)]) ⟨W, E, ns, hs, os, tm⟩ k :=
  sem_map i hi hm (fun F w hw => run_clear ht hw ats h0 ty) hk'
theorem r_makeMap (ek : K → Value) (ev : V → Value) (hk : ∀ n, appO os [mapP n ek ev [] 0] fun os => k (.one (.v (.map (some n)))) ⟨W, E, ns, hs, os, tm⟩) :
    SemVC C m (Instr.makeMap t none) ⟨W, E, ns, hs, os, tm⟩ k := by
  refine sem_onew (ι := Nat) (fun n => .map (some n)) (fun n => mapP n ek ev [] 0) ?_ ?_
  · intro w hw
    refine ⟨w.heap.size, { w with heap := w.heap.push (.map #[] 0) }, At1 w.heap.size, rfl, below_push _ _, ⟨?_, fun h => h, rfl, by simp, by simp, by simp⟩, ?_⟩
    · show (w.heap.push _)[_]? = _
      simp [ents]
    · rintro b rfl
      exact ⟨by show _ < (w.heap.push _).size; rw [Array.size_push]; omega, Nat.le_refl _⟩
  · intro n
    have := hk n
    rw [appO_eq] at this ⊢
    rw [force_eq]; exact this

theorem r_range (h : MapRd ⟨W, E, ns, hs, os, tm⟩ r ek ev kvs clock) (ht : mapTy C.P t = some (kt, et))
    (hk : ∀ n, appO os [iterP n r clock [] clock] fun os => k (.one (.v (.pointer (some ⟨n, 0, none⟩)))) ⟨W, E, ns, hs, os, tm⟩) :
    SemVC C m (Instr.range t (.map (some r))) ⟨W, E, ns, hs, os, tm⟩ k := by
  refine sem_onew (ι := Nat) (fun n => .pointer (some ⟨n, 0, none⟩)) (fun n => iterP n r clock [] clock) ?_ ?_
  · intro w hw
    refine ⟨w.heap.size, { w with heap := w.heap.push (.mapIter (some r) clock #[] clock) }, At1 w.heap.size, run_range t ht (h.go C w hw), below_push _ _, ⟨?_, fun h => h, rfl⟩, ?_⟩
    · show (w.heap.push _)[_]? = _
      simp
    · rintro b rfl
      exact ⟨by show _ < (w.heap.push _).size; rw [Array.size_push]; omega, Nat.le_refl _⟩
  · intro n
    have := hk n
    rw [appO_eq] at this ⊢
    rw [force_eq]; exact this

theorem r_next (i : Nat) {it since : Nat} {seen : List Nat} {ty : TypeId} (hi : os[i]? = some (iterP it r since seen clock)) (h : MapRd ⟨W, E, ns, hs, os, tm⟩ r ek ev kvs clock) (hs' : ∀ e ∈ kvs, e.2.2 < since) (hmf : m = false)
    (h1 : (∀ e ∈ kvs, e.2.2 ∈ seen) → force (ofVal (.tuple #[.bool false])) fun r => k r ⟨W, E, ns, hs, os, tm⟩)
    (h2 : ∀ e ∈ kvs, e.2.2 ∉ seen → setO os i (iterP it r since (e.2.2 :: seen) clock) fun os => force (ofVal (.tuple #[.bool true, ek e.1, ev e.2.1])) fun r => k r ⟨W, E, ns, hs, os, tm⟩) :
    SemVC C m (Instr.next (.pointer (some ⟨it, 0, none⟩)) false ty) ⟨W, E, ns, hs, os, tm⟩ k := by
  refine ⟨fun w hw => ?_⟩
  obtain ⟨fp, ho⟩ := hw.osc
  obtain ⟨g1, g2⟩ := ho i _ hi
  have g1 : IterAt (fp i) w NoE it r since seen clock := g1
  rcases run_next (P := C.P) (O := fun _ => True) (ty := ty) ⟨g1.at_, g1.free, trivial⟩ (h.go C w hw) hs' with ⟨n, ha, hr⟩ | ⟨e, w', he, hns, hr, hg, hat⟩
  · have := h1 ha
    rw [force_eq] at this
    exact ⟨_, _, hr, by rw [hmf]; nofun, ⟨W, E, ns, hs, os, tm⟩, _, fun _ h => h, hw.drawn n, ofVal_R _ _, this⟩
  · have hx := h2 e he hns
    rw [setO_eq, force_eq] at hx
    have hmod := hw.updO (w' := w') (o' := iterP it r since (e.2.2 :: seen) clock) (F' := fp i) ho hi (hg.mono (by rintro b rfl; exact g1.own)) ⟨hat, fun h => h, g1.own⟩ fun b hb => ⟨Nat.lt_of_lt_of_le (g2 b hb).1 hg.size, .inl hb⟩
    exact ⟨_, w', hr, by rw [hmf]; nofun, ⟨W, E, ns, hs, os.set i _, tm⟩, _, fun _ h => ⟨h.d, h.t⟩, hmod, ofVal_R _ _, hx⟩

theorem r_entry (i : Nat) {it since : Nat} {seen s : List Nat} (hi : os[i]? = some (iterP it r since seen clock)) (h : MapRd ⟨W, E, ns, hs, os, tm⟩ r ek ev kvs clock) {e : K × V × Nat} (he : e ∈ kvs) (hs' : seen = e.2.2 :: s)
    (hk : force (ofVal (.tuple #[ek e.1, ev e.2.1])) fun r => k r ⟨W, E, ns, hs, os, tm⟩) : SemVC C m (Instr.entry (.pointer (some ⟨it, 0, none⟩))) ⟨W, E, ns, hs, os, tm⟩ k :=
  sem_q (fun w hw => by
    obtain ⟨fp, ho⟩ := hw.osc
    have g1 : IterAt (fp i) w NoE it r since seen clock := (ho i _ hi).1
    exact run_entry (O := fun _ => True) ⟨g1.at_, g1.free, trivial⟩ (h.go C w hw) he hs') hk
end

end
theorem eq_flatD {P : Program} {t : TypeId} {xs ys : List Value} {k : Bool → Prop} {ks : List SK} {b : Bool} (h : flatK P t = some ks) (hx : fitB ks xs = true) (hy : fitB ks ys = true) (hb : eqvL xs ys = b) (hk : k b) : EqVC P t xs ys k :=
  eq_flat h hx hy (by rw [hb]; exact hk)
theorem Dat.mv {W W' : World} {E E' : Nat → Prop} {a : Addr} {cs : List Value} (h : Dat W E a cs) (hl : Later W E W' E') : Dat W' E' a cs := stb_later hl (fun W E => Dat W E a cs) h

/-! ### what a function made, as data for its caller -/
theorem Rel.dat {M : Nat → Prop} {ns : List Nat} {hs : List HB} {rest : List OP} {w' : World} {E' : Nat → Prop} (h : Rel M ns hs rest w' E') (hM : ∀ b, ¬ M b) (t : Nat) {n : Nat} {ty : TypeId} {ls : List Lf} {cs : List Value} (h1 : ns[t]? = some n) (h2 : hs[t]? = some (.k ty ls)) (h3 : lvL ns ls = some cs) :
    Dat w' E' ⟨n, 0, none⟩ cs := by
  obtain ⟨hc, he⟩ := h.tag t n ty ls cs h1 h2 h3 hM
  refine ⟨⟨he, fun i v hi => ?_⟩, (Array.getElem?_eq_some_iff.1 hc).1⟩
  rw [add_zero_off]
  unfold World.cell?
  simp only [hc]
  simpa using hi
theorem Rel.map {K V : Type} [DecidableEq K] {M : Nat → Prop} {ns : List Nat} {hs : List HB} {rest : List OP} {w' : World} {E' : Nat → Prop} (h : Rel M ns hs rest w' E') (hM : ∀ b, ¬ M b) (j : Nat) {r : Nat} {ek : K → Value} {ev : V → Value} {kvs : List (K × V × Nat)} {clock : Nat}
    (hj : rest[j]? = some (mapP r ek ev kvs clock)) : MapD r ek ev kvs clock w' E' := by
  obtain ⟨F, h1, h2⟩ := h.own j _ hj hM
  have h1 : MapAt F w' NoE r ek ev kvs clock := h1
  exact ⟨h1.at_, h2 r h1.own, trivial, h1.nodup, h1.born, h1.stamps⟩
/-- The cells of a row that has become data. -/
theorem Rel.row {M : Nat → Prop} {ns : List Nat} {hs : List HB} {rest : List OP} {w' : World} {E' : Nat → Prop} (h : Rel M ns hs rest w' E') (hM : ∀ b, ¬ M b) (j : Nat) {e size : Nat} {ad : Addr} {n cap : Nat} {c : Value} {cs : List Value}
    (hj : rest[j]? = some (rowP e size (some ad) n cap (c :: cs))) : Dat w' E' ad (c :: cs) := by
  obtain ⟨F, h1, h2⟩ := h.own j _ hj hM
  have h1 : Row F w' NoE e size (some ad) n cap (c :: cs) := h1
  have hb : ad.block < w'.heap.size ∧ ¬ E' ad.block := by
    rcases h1.2 with ⟨g1, g2⟩ | ⟨g, cur, g0, g1, g2, g3, g4, g5, g6, g7, g8⟩
    · have := h1.1; rw [g1] at this; simp at this
    · cases g1; exact ⟨(Array.getElem?_eq_some_iff.1 g2).1, h2 g g8⟩
  refine ⟨⟨hb.2, fun i v hi => ?_⟩, hb.1⟩
  obtain ⟨ad', e1, _, e2⟩ := h1.cells hi
  cases e1; exact e2
end Go.Ev
