/- A symbolic walk: rows of cells that are owned: append, make, store; slices that are read; conditions: of each row's type by computation. -/
import Derived.Test.YtojhoeogikdjoaaGreatDoorEvOwn
import Derived.Laws.MakeOwn
set_option linter.unusedSimpArgs false
set_option linter.unusedVariables false
set_option linter.unusedSectionVars false
namespace Go.Ev
open Go.RowKit

/-! ### rows that are owned -/
/-- The type of a slice: its element's type, size and bytes. -/
def rowTy (P : Program) (t : TypeId) : Option (Nat × Nat × Nat) :=
  match P.underlying t with
  | some (.slice e) => match P.info? e with
    | some i => match i.zero with
      | some z => if z.cells.size = i.size ∧ 0 < i.size then some (e, i.size, i.bytes) else none
      | none => none
    | none => none
  | _ => none
theorem rowTy_info {P : Program} {t e size bytes : Nat} (h : rowTy P t = some (e, size, bytes)) :
    P.underlying t = some (.slice e) ∧ ∃ i z, P.info? e = some i ∧ i.zero = some z ∧ i.size = size ∧ i.bytes = bytes ∧ z.cells.size = size ∧ 0 < size := by
  unfold rowTy at h
  split at h
  · rename_i e' hu
    split at h
    · rename_i i hi
      split at h
      · rename_i z hz
        split at h
        · rename_i hc
          simp only [Option.some.injEq, Prod.mk.injEq] at h
          obtain ⟨rfl, rfl, rfl⟩ := h
          exact ⟨hu, i, z, hi, hz, rfl, rfl, hc.1, hc.2⟩
        · cases h
      · cases h
    · cases h
  · cases h

def Blk (b : Option Addr) (cap : Nat) : Nat → Prop := fun g => 0 < cap ∧ ∃ a, b = some a ∧ a.block = g

/-- A slice whose row nobody else writes: its block is in `O`. -/
structure Row (O : Nat → Prop) (W : World) (E : Nat → Prop) (e size : Nat) (b : Option Addr) (n cap : Nat) (xs : List Value) : Prop where
  len : xs.length = n * size
  alt : (n = 0 ∧ cap = 0) ∨
    ∃ g cur, 0 < cap ∧ b = some ⟨g, 0, none⟩ ∧ W.heap[g]? = some (.cells cur e (0, 0)) ∧ n ≤ cap ∧ cap ≤ maxLen ∧ cur.size = cap * size ∧ cur.toList.take (n * size) = xs ∧ ¬ E g ∧ O g

theorem row_nil (O : Nat → Prop) (W : World) (E : Nat → Prop) (e size : Nat) (b : Option Addr) : Row O W E e size b 0 0 [] := ⟨by simp, .inl ⟨rfl, rfl⟩⟩
theorem Row.mono {O O' : Nat → Prop} {W : World} {E E' : Nat → Prop} {e size : Nat} {b : Option Addr} {n cap : Nat} {xs : List Value} (h : Row O W E e size b n cap xs) (ho : ∀ g, O g → O' g) (he : ∀ g, E' g → E g) : Row O' W E' e size b n cap xs := by
  refine ⟨h.1, ?_⟩
  rcases h.2 with h | ⟨g, cur, h0, h1, h2, h3, h4, h5, h6, h7, h8⟩
  · exact .inl h
  · exact .inr ⟨g, cur, h0, h1, h2, h3, h4, h5, h6, fun h => h7 (he _ h), ho _ h8⟩
theorem Row.cells {O : Nat → Prop} {W : World} {E : Nat → Prop} {e size : Nat} {b : Option Addr} {n cap : Nat} {xs : List Value} (h : Row O W E e size b n cap xs) {j : Nat} {v : Value} (hj : xs[j]? = some v) : ∃ ad, b = some ad ∧ ¬ E ad.block ∧ W.cell? (ad.add j) = some v := by
  rcases h.2 with ⟨h2, _⟩ | ⟨g, cur, h0, h1, h2, h3, h4, h5, h6, h7, h8⟩
  · have := h.1; rw [h2] at this; simp at this; subst this; simp at hj
  · refine ⟨_, h1, h7, ?_⟩
    have : (⟨g, 0, none⟩ : Addr).add j = ⟨g, j, none⟩ := by unfold Addr.add; split <;> simp_all
    rw [this]
    unfold World.cell?
    simp only [h2]
    rw [← h6, List.getElem?_take] at hj
    split at hj
    · simpa using hj
    · cases hj

/-- `append` to an owned row. -/
theorem run_append {P : Program} {O : Nat → Prop} {w : World} {t ty e size bytes : Nat} {b : Option Addr} {n cap : Nat} {xs : List Value} {a : Addr} {mm c : Nat} {news : List Value}
    (hty : rowTy P t = some (e, size, bytes)) (hrow : Row O w (fun _ => False) e size b n cap xs) (hx : ∀ j u, news[j]? = some u → w.cell? (a.add j) = some u) (hl : news.length = mm * size)
    (h1 : ∀ u ∈ news, u.oneCell' = true) (hn : (n + mm) * bytes ≤ 140737488355328 ∧ n + mm ≤ maxLen) :
    ∃ b' cap' w', (Builtin.append_ #[t, t] ty #[.slice b n cap, .slice (some a) mm c]).run P w = .ok (.slice b' (n + mm) cap') w' ∧ Gl w (Blk b cap) w' ∧
      Row (fun g => O g ∨ w.heap.size ≤ g) w' (fun g => ¬ Blk b cap g ∧ g < w.heap.size) e size b' (n + mm) cap' (xs ++ news) := by
  obtain ⟨ht, i, z, hi, hz, rfl, rfl, hzs, hsz⟩ := rowTy_info hty
  have hsmall : n + mm ≤ 9223372036854775807 := by have := hn.2; simp only [maxLen] at this; omega
  have hlen : (xs ++ news).length = (n + mm) * i.size := by rw [List.length_append, hrow.1, hl, Nat.add_mul]
  have grown : ∀ (old : Nat), ∀ (row : Nat → Prop),
      Row (fun g => O g ∨ w.heap.size ≤ g) (w.drew.alloc (.cells (xs.toArray ++ news.toArray ++ Builtin.zeroCells z.cells (grownCap w (n + mm) old e - (n + mm))) e)) (fun g => ¬ Blk b cap g ∧ g < w.heap.size) e i.size
        (some ⟨w.heap.size, 0, none⟩) (n + mm) (grownCap w (n + mm) old e) (xs ++ news) ∧
      Gl w row (w.drew.alloc (.cells (xs.toArray ++ news.toArray ++ Builtin.zeroCells z.cells (grownCap w (n + mm) old e - (n + mm))) e)) := by
    intro old row
    have hge := grownCap_ge w (n + mm) old e
    have hcm : grownCap w (n + mm) old e ≤ maxLen := grownCap_le_maxLen w (n + mm) old e hn.2
    refine ⟨⟨hlen, ?_⟩, ⟨rfl, rfl, rfl, by simp, fun k hk _ => heap_alloc_old w.drew _ k hk⟩⟩
    rcases Nat.eq_zero_or_pos (grownCap w (n + mm) old e) with h0 | h0
    · exact .inl ⟨by omega, h0⟩
    refine .inr ⟨w.heap.size, _, h0, rfl, heap_alloc_new w.drew _, hge, hcm, ?_, ?_, fun h => absurd h.2 (Nat.lt_irrefl _), .inr (Nat.le_refl _)⟩
    · simp only [Array.size_append, List.size_toArray, size_zeroCells, hzs, hrow.1, hl, ← Nat.add_mul]
      congr 1
      omega
    · simp only [Array.toList_append, List.append_assoc]
      rw [← List.append_assoc, ← hlen]
      exact List.take_left
  rcases hrow.2 with ⟨rfl, rfl⟩ | ⟨g, cur, h0, rfl, hg, hnc, hcm, hcs, htake, _, hO⟩
  · have hx0 : xs = [] := List.eq_nil_of_length_eq_zero (by simpa using hrow.1)
    subst hx0
    by_cases hm : mm = 0
    · subst hm
      have hnn : news = [] := List.eq_nil_of_length_eq_zero (by simpa using hl)
      subst hnn
      refine ⟨b, 0, w, ?_, Gl.refl _ _, row_nil _ _ _ _ _ _⟩
      cases b <;> simp [Builtin.append_, run_underlying ht, sizeOf, typeInfo, hi, Builtin.lenOf, Builtin.firstCells, loadCells, loadCellsFrom, storeCells]
    · have hgr := grown 0 (Blk b 0)
      cases b with
      | none =>
        have hr := run_append_nil (P := P) w t ty e i z ht hi hz a mm c news hl hx (by omega) (by omega) (by have hb := hn.1; simp only [Nat.zero_add] at hb; omega)
        simp only [Nat.zero_add, List.nil_append, Array.empty_append] at hgr ⊢
        exact ⟨_, _, _, hr, hgr.2, hgr.1⟩
      | some a0 =>
        have hr := run_append_grow (P := P) w t ty e i z ht hi hz a0 0 0 [] (by simp) (by simp) a mm c news hl hx (by omega) (by omega) (growslice_fits (by omega) hn.1)
        exact ⟨_, _, _, hr, hgr.2, hgr.1⟩
  · by_cases hroom : n + mm ≤ cap
    · have hfit : n * i.size + news.length ≤ cur.size := by rw [hl, hcs, ← Nat.add_mul]; exact Nat.mul_le_mul_right _ hroom
      have hr := run_append_room (P := P) w t ty e i ht hi g n cap cur hg a mm c news hl hx h1 hroom hfit
      refine ⟨_, _, _, hr, ⟨rfl, rfl, rfl, by simp [World.setRow], fun k _ hk => setRow_other w g k _ (fun e => hk ⟨h0, _, rfl, e.symm⟩)⟩, ⟨hlen, .inr ⟨g, _, h0, rfl, setRow_heap w g cur _ e _ hg, hroom, hcm, ?_, ?_, fun h => h.1 ⟨h0, _, rfl, rfl⟩, .inl hO⟩⟩⟩
      · simp only [List.size_toArray, List.length_append, List.length_take, List.length_drop, Array.length_toList]
        omega
      · rw [htake, ← hlen]
        exact List.take_left
    · have holds : ∀ j u, xs[j]? = some u → w.cell? ((⟨g, 0, none⟩ : Addr).add j) = some u := fun j u hj => by
        obtain ⟨ad, e1, _, e2⟩ := hrow.cells hj
        cases e1; exact e2
      have hr := run_append_grow (P := P) w t ty e i z ht hi hz ⟨g, 0, none⟩ n cap xs hrow.1 holds a mm c news hl hx (by omega) (by omega) (growslice_fits (by omega) hn.1)
      have hgr := grown cap (Blk (some ⟨g, 0, none⟩) cap)
      exact ⟨_, _, _, hr, hgr.2, hgr.1⟩

theorem row_own {O : Nat → Prop} {W : World} {E : Nat → Prop} {e size : Nat} {b : Option Addr} {n cap : Nat} {xs : List Value} (h : Row O W E e size b n cap xs) : ∀ g, Blk b cap g → O g ∧ ¬ E g ∧ g < W.heap.size := by
  rintro g ⟨hc, a, rfl, rfl⟩
  rcases h.2 with ⟨_, h1⟩ | ⟨g, cur, h0, h1, h2, h3, h4, h5, h6, h7, h8⟩
  · omega
  · cases h1; exact ⟨h8, h7, (Array.getElem?_eq_some_iff.1 h2).1⟩

def szT (P : Program) (t : TypeId) : Option Nat := (P.info? t).map (·.size)
def spl (xs : List Value) (j : Nat) (ys : List Value) : List Value := xs.take j ++ (ys ++ xs.drop (j + ys.length))
theorem spl_length {xs : List Value} {j : Nat} {ys : List Value} (h : j + ys.length ≤ xs.length) : (spl xs j ys).length = xs.length := by
  unfold spl; simp; omega

theorem run_storeRow {P : Program} {O : Nat → Prop} {w : World} {E : Nat → Prop} {e size : Nat} {ad : Addr} {n cap : Nat} {xs : List Value} {t j : Nat} {y : Value}
    (hrow : Row O w E e size (some ad) n cap xs) (hsz : 0 < size) (hpos : 0 < y.cells.size) (hs : szT P t = some y.cells.size) (h1 : ∀ u ∈ y.cells.toList, u.oneCell' = true) (hj : j + y.cells.size ≤ xs.length) :
    ∃ w', (do Instr.storeAt t (.pointer (some (ad.add j))) y; pure undef : Sem Value).run P w = .ok undef w' ∧ Gl w (Blk (some ad) cap) w' ∧ w'.heap.size = w.heap.size ∧ Row O w' E e size (some ad) n cap (spl xs j y.cells.toList) := by
  unfold szT at hs
  cases hi : P.info? t with
  | none => rw [hi] at hs; cases hs
  | some i =>
    rw [hi] at hs
    simp only [Option.map_some, Option.some.injEq] at hs
    rcases hrow.2 with ⟨h, _⟩ | ⟨g, cur, h0, hb, hg, hnc, hcm, hcs, htake, hE, hO⟩
    · have := hrow.1; rw [h] at this; omega
    · cases hb
      have hxs : xs.length ≤ cur.size := by rw [← htake, List.length_take]; simp; omega
      have e2 : (⟨g, 0, none⟩ : Addr).add j = ⟨g, j, none⟩ := by unfold Addr.add; split <;> simp_all
      have hr := run_storeCells_at P g j e y.cells.toList 0 cur w hg (by simp; omega) h1
      refine ⟨w.setRow g (cur.toList.take (j + 0) ++ y.cells.toList ++ cur.toList.drop (j + 0 + y.cells.toList.length)).toArray, ?_, ⟨rfl, rfl, rfl, by simp [World.setRow], fun k _ hk => setRow_other w g k _ (fun e => hk ⟨h0, _, rfl, e.symm⟩)⟩, by simp [World.setRow], ⟨?_, .inr ⟨g, _, h0, rfl, setRow_heap w g cur _ e _ hg, hnc, hcm, ?_, ?_, hE, hO⟩⟩⟩
      · rw [e2]
        rw [run_bind (a := ()) (w' := w.setRow g (cur.toList.take (j + 0) ++ y.cells.toList ++ cur.toList.drop (j + 0 + y.cells.toList.length)).toArray)]
        · rfl
        · unfold Instr.storeAt
          rw [run_bind (show (Instr.sureAddr (.pointer (some ⟨g, j, none⟩))).run P w = .ok _ w from rfl)]
          unfold storeVar
          rw [run_bind (run_sizeOf hi), hs, if_neg (by simp)]
          exact hr
      · rw [spl_length (by simpa using hj)]; exact hrow.1
      · simp only [List.size_toArray, List.length_append, List.length_take, List.length_drop, Array.length_toList]; omega
      · unfold spl
        have hj' : j + y.cells.toList.length ≤ n * size := by rw [← hrow.1]; simpa using hj
        have hc' : n * size ≤ cur.toList.length := by rw [Array.length_toList]; rw [← hrow.1]; exact hxs
        simp only [Nat.add_zero]
        rw [← htake]
        apply List.ext_getElem?
        intro q
        simp only [List.append_assoc]
        rw [List.getElem?_take]
        by_cases h1 : q < j
        · rw [if_pos (by omega), List.getElem?_append_left (by rw [List.length_take]; omega), List.getElem?_append_left (by rw [List.length_take, List.length_take]; omega)]
          simp only [List.getElem?_take, h1, if_true, show q < n * size by omega]
        · have l1 : (cur.toList.take j).length = j := by rw [List.length_take]; omega
          have l2 : ((cur.toList.take (n * size)).take j).length = j := by rw [List.length_take, List.length_take]; omega
          rw [List.getElem?_append_right (l₁ := cur.toList.take j) (by rw [l1]; omega), List.getElem?_append_right (l₁ := (cur.toList.take (n * size)).take j) (by rw [l2]; omega), l1, l2]
          by_cases h2 : q - j < y.cells.toList.length
          · rw [if_pos (by omega), List.getElem?_append_left h2, List.getElem?_append_left h2]
          · rw [List.getElem?_append_right (by omega), List.getElem?_append_right (by omega), List.getElem?_drop, List.getElem?_drop, List.getElem?_take]
            by_cases h3 : q < n * size
            · rw [if_pos h3, if_pos (by omega)]
            · rw [if_neg h3, if_neg (by omega)]


abbrev NoE : Nat → Prop := fun _ => False
def rowP (e size : Nat) (b : Option Addr) (n cap : Nat) (xs : List Value) : OP where
  φ F w := Row F w NoE e size b n cap xs
  loc F w w' h hs := ⟨h.1, by
    rcases h.2 with h | ⟨g, cur, h0, h1, h2, h3, h4, h5, h6, h7, h8⟩
    · exact .inl h
    · exact .inr ⟨g, cur, h0, h1, (hs g h8).trans h2, h3, h4, h5, h6, h7, h8⟩⟩
/-- What is known of a row's slice for itself. -/
structure RowV (b : Option Addr) (n cap : Nat) : Prop where
  some_ : 0 < cap → ∃ g, b = some ⟨g, 0, none⟩
  le : n ≤ cap
  max : cap ≤ maxLen
theorem Row.v {F : Nat → Prop} {w : World} {E : Nat → Prop} {e size : Nat} {b : Option Addr} {n cap : Nat} {xs : List Value} (h : Row F w E e size b n cap xs) : RowV b n cap := by
  rcases h.2 with ⟨h1, h2⟩ | ⟨g, cur, h0, h1, h2, h3, h4, _⟩
  · exact ⟨fun h => by omega, by omega, by simp only [maxLen]; omega⟩
  · exact ⟨fun _ => ⟨g, h1⟩, h3, h4⟩
theorem RowV.nil (b : Option Addr) : RowV b 0 0 := ⟨fun h => by omega, Nat.le_refl _, by simp only [maxLen]; omega⟩
theorem Row.min {F : Nat → Prop} {w : World} {E : Nat → Prop} {e size : Nat} {b : Option Addr} {n cap : Nat} {xs : List Value} (h : Row F w E e size b n cap xs) : Row (Blk b cap) w NoE e size b n cap xs := by
  refine ⟨h.1, ?_⟩
  rcases h.2 with h | ⟨g, cur, h0, h1, h2, h3, h4, h5, h6, h7, h8⟩
  · exact .inl h
  · exact .inr ⟨g, cur, h0, h1, h2, h3, h4, h5, h6, fun h => h, h0, _, h1, rfl⟩

theorem run_append0 {P : Program} {w : World} {t ty e size bytes : Nat} (hty : rowTy P t = some (e, size, bytes)) (b : Option Addr) (n cap : Nat) (c : Nat) (hc : n ≤ cap) :
    (Builtin.append_ #[t, t] ty #[.slice b n cap, .slice none 0 c]).run P w = .ok (.slice b n cap) w := by
  obtain ⟨ht, i, z, hi, hz, rfl, rfl, hzs, hsz⟩ := rowTy_info hty
  cases b <;> simp [Builtin.append_, run_underlying ht, sizeOf, typeInfo, hi, Builtin.lenOf, Builtin.firstCells, loadCells, loadCellsFrom, storeCells, hc]

section
variable {C : Ctx} {T : Tr} {m : Bool} {k : AV → St → Prop} {W : World} {E : Nat → Prop} {ns : List Nat} {hs : List HB} {os : List OP} {tm : List AV}

/-- `append` to the owned row at place 'i'. -/
theorem r_append (i : Nat) {t ty e size bytes : Nat} {b : Option Addr} {n cap : Nat} {xs : List Value} {a : Option Addr} {mm c n' : Nat} {news xs' : List Value} (hi : os[i]? = some (rowP e size b n cap xs))
    (hty : rowTy C.P t = some (e, size, bytes)) (hx : ∀ a0, a = some a0 → RdAt ⟨W, E, ns, hs, os, tm⟩ a0 news) (ha : a = none → mm = 0) (hl : news.length = mm * size) (h1 : ∀ u ∈ news, u.oneCell' = true)
    (hn : (n + mm) * bytes ≤ 140737488355328 ∧ n + mm ≤ maxLen) (hm : m = false) (hn' : n + mm = n') (hxs : xs ++ news = xs')
    (hk : ∀ b' cap', RowV b' n' cap' → setO os i (rowP e size b' n' cap' xs') fun os => k (.one (.v (.slice b' n' cap'))) ⟨W, E, ns, hs, os, tm⟩) :
    SemVC C m (Builtin.append_ #[t, t] ty #[.slice b n cap, .slice a mm c]) ⟨W, E, ns, hs, os, tm⟩ k := by
  subst hn'; subst hxs
  refine sem_o (ι := { p : Option Addr × Nat // RowV p.1 (n + mm) p.2 }) i (fun p => .slice p.1.1 (n + mm) p.1.2) (fun p => rowP e size p.1.1 (n + mm) p.1.2 (xs ++ news)) hi ?_ hm ?_
  · intro F w hmod hrow hlt
    have hrow : Row F w NoE e size b n cap xs := hrow
    cases a with
    | none =>
      obtain rfl := ha rfl
      obtain rfl : news = [] := List.eq_nil_of_length_eq_zero (by simpa using hl)
      have hv := hrow.v
      exact ⟨⟨(b, cap), hv⟩, w, F, run_append0 hty b n cap c hv.le, Gl.refl _ _, (by rw [List.append_nil]; exact hrow), fun b hb => ⟨hlt b hb, .inl hb⟩⟩
    | some a0 =>
      obtain ⟨b', cap', w', g1, g2, g3⟩ := run_append (ty := ty) (c := c) hty hrow (fun j u hj => (hx a0 rfl).go C w hmod j u hj) hl h1 hn
      refine ⟨⟨(b', cap'), g3.v⟩, w', Blk b' cap', g1, g2.mono fun g hg => (row_own hrow g hg).1, g3.min, fun g hg => ?_⟩
      obtain ⟨h2, h3, h4⟩ := row_own g3 g hg
      exact ⟨h4, h2⟩
  · rintro ⟨⟨b', cap'⟩, hv⟩
    have := hk b' cap' hv
    rw [setO_eq] at this ⊢
    rw [force_eq]; exact this

/-- `append` to a slice without room: a new row. -/
theorem r_appendN {t ty e size bytes : Nat} {b : Option Addr} {a : Addr} {mm c : Nat} {news : List Value}
    (hty : rowTy C.P t = some (e, size, bytes)) (hx : RdAt ⟨W, E, ns, hs, os, tm⟩ a news) (hl : news.length = mm * size) (h1 : ∀ u ∈ news, u.oneCell' = true)
    (hn : mm * bytes ≤ 140737488355328 ∧ mm ≤ maxLen)
    (hk : ∀ b' cap', RowV b' mm cap' → appO os [rowP e size b' mm cap' news] fun os => k (.one (.v (.slice b' mm cap'))) ⟨W, E, ns, hs, os, tm⟩) :
    SemVC C m (Builtin.append_ #[t, t] ty #[.slice b 0 0, .slice (some a) mm c]) ⟨W, E, ns, hs, os, tm⟩ k := by
  refine sem_onew (ι := { p : Option Addr × Nat // RowV p.1 mm p.2 }) (fun p => .slice p.1.1 mm p.1.2) (fun p => rowP e size p.1.1 mm p.1.2 news) ?_ ?_
  · intro w hmod
    obtain ⟨b', cap', w', g1, g2, g3⟩ := run_append (O := NoE) (b := b) (n := 0) (cap := 0) (xs := []) (ty := ty) (c := c) hty (row_nil _ _ _ _ _ _) (fun j u hj => hx.go C w hmod j u hj) hl h1 (by simpa using hn)
    simp only [Nat.zero_add, List.nil_append] at g1 g3
    refine ⟨⟨(b', cap'), g3.v⟩, w', Blk b' cap', g1, (g2.mono (G := fun _ => False) (by rintro g ⟨h, _⟩; omega)).below, g3.min, fun g hg => ?_⟩
    obtain ⟨h2, h3, h4⟩ := row_own g3 g hg
    exact ⟨h4, h2.elim (fun h => h.elim) fun h => h⟩
  · rintro ⟨⟨b', cap'⟩, hv⟩
    have := hk b' cap' hv
    rw [appO_eq] at this ⊢
    rw [force_eq]; exact this

/-- Writing into the owned row at place 'i'. -/
theorem r_store (i j : Nat) {e size : Nat} {ad a : Addr} {n cap : Nat} {xs : List Value} {t : Nat} {y : Value} (hi : os[i]? = some (rowP e size (some ad) n cap xs)) (ha : a = ad.add j) (hsz : 0 < size) (hpos : 0 < y.cells.size) (hs' : szT C.P t = some y.cells.size)
    (h1 : ∀ u ∈ y.cells.toList, u.oneCell' = true) (hj : j + y.cells.size ≤ xs.length) (hm : m = false)
    (hk : setO os i (rowP e size (some ad) n cap (spl xs j y.cells.toList)) fun os => k (.one (.v undef)) ⟨W, E, ns, hs, os, tm⟩) :
    SemVC C m (do Instr.storeAt t (.pointer (some a)) y; pure undef) ⟨W, E, ns, hs, os, tm⟩ k := by
  subst ha
  refine sem_o (ι := Unit) i (fun _ => undef) (fun _ => rowP e size (some ad) n cap (spl xs j y.cells.toList)) hi ?_ hm ?_
  · intro F w hmod hrow hlt
    obtain ⟨w', g1, g2, g3, g4⟩ := run_storeRow hrow hsz hpos hs' h1 hj
    refine ⟨(), w', Blk (some ad) cap, g1, g2.mono fun g hg => (row_own hrow g hg).1, g4.min, fun g hg => ?_⟩
    have := row_own hrow g hg
    exact ⟨by rw [g3]; exact this.2.2, .inl this.1⟩
  · rintro ⟨⟩
    rw [setO_eq] at hk ⊢
    rw [force_eq]; exact hk

/-- An owned row, where it is read. -/
theorem rd_row (i j : Nat) {e size : Nat} {ad : Addr} {n cap : Nat} {xs ds : List Value} (hi : os[i]? = some (rowP e size (some ad) n cap xs)) (hd : (xs.drop j).take ds.length = ds) : RdAt ⟨W, E, ns, hs, os, tm⟩ (ad.add j) ds :=
  ⟨fun C w hm q v hq => by
    obtain ⟨fp, ho⟩ := hm.osc
    have hr : Row (fp i) w NoE e size (some ad) n cap xs := (ho i _ hi).1
    rw [add_add]
    have : xs[j + q]? = some v := by
      rw [← hd, List.getElem?_take] at hq
      split at hq
      · rw [List.getElem?_drop] at hq; exact hq
      · cases hq
    obtain ⟨ad', e1, _, e2⟩ := hr.cells this
    cases e1; exact e2⟩

theorem r_make {t e size bytes : Nat} {kl kc : IntKind} {l0 c0 l c : Int} {zs : List Value} (hl0 : l0 = l) (hc0 : c0 = c) (hty : rowTy C.P t = some (e, size, bytes)) (hz : ((C.P.info? e).bind (·.zero)).map (·.cells.toList) = some zs)
    (h0 : 0 ≤ l ∧ l ≤ c) (hb : (bytes : Int) * c ≤ 281474976710656 ∧ c ≤ 4611686018427387903)
    (hk : ∀ n, RowV (some ⟨n, 0, none⟩) l.toNat c.toNat → appO os [rowP e size (some ⟨n, 0, none⟩) l.toNat c.toNat ((List.replicate l.toNat zs).flatMap id)] fun os => k (.one (.v (.slice (some ⟨n, 0, none⟩) l.toNat c.toNat))) ⟨W, E, ns, hs, os, tm⟩) :
    SemVC C m (Instr.makeSlice t (.int kl l0) (.int kc c0)) ⟨W, E, ns, hs, os, tm⟩ k := by
  rw [hl0, hc0]
  obtain ⟨ht, i, z, hi, hz', rfl, rfl, hzs, hsz⟩ := rowTy_info hty
  rw [hi] at hz
  simp only [Option.bind_some, hz', Option.map_some, Option.some.injEq] at hz
  subst hz
  refine sem_onew (ι := { n : Nat // RowV (some ⟨n, 0, none⟩) l.toNat c.toNat }) (fun n => .slice (some ⟨n.1, 0, none⟩) l.toNat c.toNat) (fun n => rowP e i.size (some ⟨n.1, 0, none⟩) l.toNat c.toNat ((List.replicate l.toNat z.cells.toList).flatMap id)) ?_ ?_
  · intro w hw
    have key : Row (fun g => g = w.heap.size) (w.alloc (.cells (madeCells z.cells (c.toNat * i.size)) e)) NoE e i.size (some ⟨w.heap.size, 0, none⟩) l.toNat c.toNat ((List.replicate l.toNat z.cells.toList).flatMap id) := by
      have hlen : ∀ n, ((List.replicate n z.cells.toList).flatMap id).length = n * i.size := by
        intro n
        induction n with
        | zero => simp
        | succ n ih => rw [List.replicate_succ, List.flatMap_cons, List.length_append, ih, id, Array.length_toList, hzs, Nat.succ_mul]; omega
      refine ⟨hlen _, ?_⟩
      rcases Nat.eq_zero_or_pos c.toNat with hc0 | hc0
      · exact .inl ⟨by omega, hc0⟩
      refine .inr ⟨w.heap.size, _, hc0, rfl, heap_alloc_new w _, by omega, ?_, ?_, ?_, fun h => h, rfl⟩
      · simp only [maxLen]; omega
      · simp [madeCells]
      · have get : ∀ (n j : Nat), j < n * i.size → ((List.replicate n z.cells.toList).flatMap id)[j]? = z.cells.toList[j % i.size]? := by
          intro n
          induction n with
          | zero => intro j h; simp at h
          | succ n ih =>
            intro j h
            rw [List.replicate_succ, List.flatMap_cons]
            by_cases h1 : j < i.size
            · rw [List.getElem?_append_left (by simpa [hzs] using h1), Nat.mod_eq_of_lt h1]; rfl
            · rw [List.getElem?_append_right (by simp [hzs]; omega)]
              simp only [id, Array.length_toList, hzs]
              rw [ih (j - i.size) (by rw [Nat.succ_mul] at h; omega), ← Nat.mod_eq_sub_mod (by omega)]
        have key : ∀ (n q : Nat), n ≤ q → ((madeCells z.cells (q * i.size)).toList.take (n * i.size)) = (List.replicate n z.cells.toList).flatMap id := by
          intro n q hnq
          apply List.ext_getElem?
          intro j
          rw [List.getElem?_take]
          by_cases h : j < n * i.size
          · have hq : n * i.size ≤ q * i.size := Nat.mul_le_mul_right _ hnq
            rw [if_pos h, get n j h]
            simp only [madeCells, Array.toList_map, Array.toList_range, List.getElem?_map]
            rw [List.getElem?_range (by omega)]
            have hm : j % i.size < z.cells.size := by rw [hzs]; exact Nat.mod_lt _ hsz
            simp only [Option.map_some, hzs]
            rw [getElem!_pos z.cells (j % i.size) hm, List.getElem?_eq_getElem (by simpa using hm)]
            simp
          · rw [if_neg h, List.getElem?_eq_none (by rw [hlen]; omega)]
        exact key l.toNat c.toNat (by omega)
    refine ⟨⟨w.heap.size, key.v⟩, _, fun g => g = w.heap.size, run_make w t e i z ht hi hz' kl kc l c h0.1 h0.2 hb.1 (by omega), below_push _ _, key, fun g hg => ?_⟩
    subst hg
    exact ⟨by show _ < (w.heap.push _).size; rw [Array.size_push]; omega, Nat.le_refl _⟩
  · rintro ⟨n, hv⟩
    have := hk n hv
    rw [appO_eq] at this ⊢
    rw [force_eq]; exact this

/-! ### more is owned, for no price -/
theorem Mod.addRow {S : St} {w : World} (h : Mod C S w) (e size : Nat) (b : Option Addr) : Mod C ⟨S.W, S.E, S.ns, S.hs, S.os ++ [rowP e size b 0 0 []], S.tm⟩ w :=
  h.addO (F' := fun _ => False) (Below.refl _ _) (row_nil _ _ _ _ _ _) (fun _ h => h.elim)
theorem loop_row (e size : Nat) (b : Option Addr) {body : Code} {K : Exit → St → Prop} (h : appO os [rowP e size b 0 0 []] fun os => LoopVC C T body ⟨W, E, ns, hs, os, tm⟩ K) : LoopVC C T body ⟨W, E, ns, hs, os, tm⟩ K := by
  rw [appO_eq] at h
  exact ⟨fun a w hs' hm => h.go a w ⟨hs'.d, hs'.t⟩ (hm.addRow e size b)⟩
theorem sem_row (e size : Nat) (b : Option Addr) {s : Sem Value} (h : appO os [rowP e size b 0 0 []] fun os => SemVC C m s ⟨W, E, ns, hs, os, tm⟩ k) : SemVC C m s ⟨W, E, ns, hs, os, tm⟩ k := by
  rw [appO_eq] at h
  exact ⟨fun w hm => by
    obtain ⟨y, w', h1, h2, S', r, h3, h4⟩ := h.go w (hm.addRow e size b)
    exact ⟨y, w', h1, h2, S', r, fun a ha => h3 a ⟨ha.d, ha.t⟩, h4⟩⟩
theorem ret_row (e size : Nat) (b : Option Addr) {v : Value} {R : Value → World → Prop} (h : appO os [rowP e size b 0 0 []] fun os => RetVC C ⟨W, E, ns, hs, os, tm⟩ v R) : RetVC C ⟨W, E, ns, hs, os, tm⟩ v R := by
  rw [appO_eq] at h
  exact ⟨fun w hm => h.go w (hm.addRow e size b)⟩

end

/-! ### slices that are read -/
/-- How a kind of Lean data lies in cells. -/
structure Ty (α : Type) where
  size : Nat
  R : World → (Nat → Prop) → α → List Value → Prop
  stb : ∀ x cs, Stb fun W E => R W E x cs
  pos : 0 < size
  len : ∀ {W E x cs}, R W E x cs → cs.length = size
  one : ∀ {W E x cs}, R W E x cs → ∀ u ∈ cs, u.oneCell' = true

def Ty.flat {α : Type} (size : Nat) (enc : α → List Value) (pos : 0 < size) (len : ∀ x, (enc x).length = size) (one : ∀ x, ∀ u ∈ enc x, u.oneCell' = true) : Ty α where
  size := size
  R _ _ x cs := cs = enc x
  stb x cs := ⟨fun h _ => h⟩
  pos := pos
  len h := by rw [h]; exact len _
  one h := by rw [h]; exact one _

/-- The elements of a slice that is data. -/
structure Sl {α : Type} (τ : Ty α) (b : Option Addr) (n c : Nat) (l : List α) (W : World) (E : Nat → Prop) : Prop where
  len : l.length = n
  le : n ≤ c
  nil : b = none → c = 0
  get : ∀ (i : Nat) (x : α), l[i]? = some x → ∃ ad cs, b = some ad ∧ Dat W E (ad.add (i * τ.size)) cs ∧ τ.R W E x cs

instance {α : Type} (τ : Ty α) (b : Option Addr) (n c : Nat) (l : List α) : Stb (Sl τ b n c l) :=
  ⟨fun h hl => ⟨h.len, h.le, h.nil, fun i x hx => by
    obtain ⟨ad, cs, e, hd, hr⟩ := h.get i x hx
    exact ⟨ad, cs, e, stb_later hl (fun W E => Dat W E (ad.add (i * τ.size)) cs) hd, (τ.stb x cs).later hr hl⟩⟩⟩

theorem Sl.nil_ {α : Type} (τ : Ty α) (b : Option Addr) (c : Nat) (hb : b = none → c = 0) (W : World) (E : Nat → Prop) : Sl τ b 0 c [] W E := ⟨rfl, Nat.zero_le _, hb, fun i x h => by simp at h⟩

/-- A part of a slice. -/
theorem Sl.cut {α : Type} {τ : Ty α} {b : Option Addr} {n c : Nat} {l : List α} {W : World} {E : Nat → Prop} (h : Sl τ b n c l W E) {lo hi mx : Nat} (h1 : lo ≤ hi) (h2 : hi ≤ n) (h3 : hi ≤ mx) (h4 : mx ≤ c) :
    Sl τ (slBase b lo mx τ.size) (hi - lo) (mx - lo) ((l.take hi).drop lo) W E := by
  refine ⟨?_, by omega, ?_, fun i x hx => ?_⟩
  · rw [List.length_drop, List.length_take, h.len]; omega
  · intro hb
    unfold slBase at hb
    split at hb
    · omega
    · cases b with
      | none => have := h.nil rfl; omega
      | some a => cases hb
  · rw [List.getElem?_drop, List.getElem?_take] at hx
    split at hx
    · obtain ⟨ad, cs, rfl, hd, hr⟩ := h.get _ x hx
      refine ⟨ad.add (lo * τ.size), cs, ?_, ?_, hr⟩
      · unfold slBase
        rw [if_neg (by omega)]; rfl
      · rw [add_add, ← Nat.add_mul]; exact hd
    · cases hx

/-- Elements of an owned row of flat cells that has become data. -/
theorem Row.sl {α : Type} {τ : Ty α} {F : Nat → Prop} {W : World} {E : Nat → Prop} {e size : Nat} {b : Option Addr} {n cap : Nat} {xs : List Value} (h : Row F W NoE e size b n cap xs) (hF : ∀ g, F g → ¬ E g) (hs : size = τ.size) {l : List α} {ys : List (List Value)}
    (hys : ys.flatten = xs) (hlen : l.length = ys.length) (hR : ∀ (i : Nat) x cs, l[i]? = some x → ys[i]? = some cs → τ.R W E x cs) : Sl τ b n cap l W E := by
  subst hs
  have hyl : ∀ cs ∈ ys, cs.length = τ.size := fun cs hcs => by
    obtain ⟨i, hi, e⟩ := List.getElem_of_mem hcs
    have hx : l[i]? = some (l[i]'(by omega)) := List.getElem?_eq_getElem _
    exact τ.len (hR i _ cs hx (by rw [List.getElem?_eq_getElem hi, e]))
  have hfl : ∀ ys : List (List Value), (∀ cs ∈ ys, cs.length = τ.size) → ys.flatten.length = ys.length * τ.size := by
    intro ys
    induction ys with
    | nil => intro _; simp
    | cons y ys ih => intro h; rw [List.flatten_cons, List.length_append, ih (fun cs hc => h cs (by simp [hc])), h y (by simp), List.length_cons, Nat.succ_mul]; omega
  have get : ∀ (ys : List (List Value)) (i : Nat) (cs : List Value) (j : Nat) (v : Value), (∀ cs ∈ ys, cs.length = τ.size) → ys[i]? = some cs → cs[j]? = some v → ys.flatten[i * τ.size + j]? = some v := by
    intro ys
    induction ys with
    | nil => intro i cs j v _ h; simp at h
    | cons y ys ih =>
      intro i cs j v hl hx hv
      rw [List.flatten_cons]
      cases i with
      | zero =>
        simp at hx; subst hx
        rw [Nat.zero_mul, Nat.zero_add, List.getElem?_append_left (List.getElem?_eq_some_iff.1 hv).1]; exact hv
      | succ i =>
        have hy := hl y (by simp)
        rw [List.getElem?_append_right (by rw [hy, Nat.succ_mul]; omega), hy, show (i + 1) * τ.size + j - τ.size = i * τ.size + j by rw [Nat.succ_mul]; omega]
        exact ih i cs j v (fun cs hc => hl cs (by simp [hc])) (by simpa using hx) hv
  have hn : l.length = n := by
    have h1 := h.1
    rw [← hys, hfl ys hyl] at h1
    have := Nat.eq_of_mul_eq_mul_right τ.pos h1
    omega
  refine ⟨hn, h.v.le, fun hb => ?_, fun i x hx => ?_⟩
  · rcases h.2 with h2 | ⟨g, cur, h0, h1, _⟩
    · exact h2.2
    · rw [hb] at h1; cases h1
  · have hil := (List.getElem?_eq_some_iff.1 hx).1
    have hyi : ys[i]? = some (ys[i]'(by omega)) := List.getElem?_eq_getElem _
    have hr := hR i x _ hx hyi
    have hcl := τ.len hr
    have h0 : (ys[i]'(by omega))[0]? = some ((ys[i]'(by omega))[0]'(by rw [hcl]; exact τ.pos)) := List.getElem?_eq_getElem _
    rcases h.2 with ⟨h2, _⟩ | ⟨g, cur, g0, g1, g2, g3, g4, g5, g6, g7, g8⟩
    · omega
    · refine ⟨_, _, g1, ⟨⟨?_, fun j v hj => ?_⟩, ?_⟩, hr⟩
      · rw [add_block]; exact hF g g8
      · have := get ys i _ j v hyl hyi hj
        rw [hys] at this
        obtain ⟨ad', e1, _, e2⟩ := h.cells this
        rw [g1] at e1; cases e1
        rw [add_add]; exact e2
      · rw [add_block]; exact (Array.getElem?_eq_some_iff.1 g2).1

/-! ### functions that only read -/
/-- The answer is 'v' at this world, and at most new memory is made. -/
structure Cr (P : Program) (f : FuncId) (args : List Value) (w : World) (v : Value) : Prop where
  go : Ct P f args w fun v' w' => v' = v ∧ Below w.heap.size w w'
theorem cr_of_ev {P : Program} {T : Tr} {f : FuncId} {fn : Func} {c : Code} {args : List Value} {w : World} {v : Value} (hT : T.OK P) (hmix : P.follows .mixedOrders = true)
    (hf : P.funcs[f]? = some fn) (hn : (fn.name == "runtime.NumGoroutine") = false) (hb : fn.body = some c)
    (h : forceT (argAVs args fn.ntmps) fun tm => ev ⟨P, w, NoE, NoE⟩ T c ⟨w, NoE, [], [], [], tm⟩ (retK ⟨P, w, NoE, NoE⟩ T fn.results.toList fun v' w' => v' = v ∧ Below w.heap.size w w')) : Cr P f args w v := by
  refine ⟨ct_of_ev hT hmix hf hn hb NoE ?_⟩
  have : (fun b => NoE b ∧ b < w.heap.size) = NoE := by funext b; simp [NoE]
  rw [this]; exact h

section
variable {C : Ctx} {m : Bool} {k : AV → St → Prop} {W : World} {E : Nat → Prop} {ns : List Nat} {hs : List HB} {os : List OP} {tm : List AV}
theorem Cq.r {P : Program} {f : FuncId} {args : List Value} {v : Value} (h : Cq P f args v) (w : World) : Cr P f args w v := ⟨h.go w⟩
/-- A call that only reads. -/
theorem call_c {f : FuncId} {args : List Value} {v : Value} (h : ∀ w, Mod C ⟨W, E, ns, hs, os, tm⟩ w → Later W E w NoE → Cr C.P f args w v) (hk : force (ofVal v) fun r => k r ⟨W, E, ns, hs, os, tm⟩) : CallVC C m (.func (.func f) #[] #[]) args ⟨W, E, ns, hs, os, tm⟩ k :=
  call_quietM (fun w hw => (h w hw hw.all).go) hk
/-- A function's value: called, it only reads. -/
structure Cv (P : Program) (fv : Value) (args : List Value) (w : World) (v : Value) : Prop where
  go : CtV P fv args w fun v' w' => v' = v ∧ Below w.heap.size w w'
theorem callv_c {fv : Value} {args : List Value} {v : Value} (h : ∀ w, Mod C ⟨W, E, ns, hs, os, tm⟩ w → Later W E w NoE → Cv C.P fv args w v) (hk : force (ofVal v) fun r => k r ⟨W, E, ns, hs, os, tm⟩) : CallVC C m fv args ⟨W, E, ns, hs, os, tm⟩ k :=
  callV_quiet (fun w hw => (h w hw hw.all).go) hk
theorem Cr.v {P : Program} {f : FuncId} {args : List Value} {w : World} {v : Value} (h : Cr P f args w v) : Cv P (.func (.func f) #[] #[]) args w v := ⟨ctV_of_ct h.go⟩
theorem Cr.closure {P : Program} {f : FuncId} {cs : Array Value} {args : List Value} {w : World} {v : Value} (h : Cr P f (args ++ cs.toList) w v) : Cv P (.func (.func f) #[] cs) args w v := ⟨ctV_of_closure h.go⟩

/-- An owned row, as data for a callee that only reads. -/
theorem sl_row (i : Nat) {α : Type} {τ : Ty α} {e size : Nat} {b : Option Addr} {n cap : Nat} {xs : List Value} {w : World} (hm : Mod C ⟨W, E, ns, hs, os, tm⟩ w) (hi : os[i]? = some (rowP e size b n cap xs)) (hs' : size = τ.size) {l : List α} {ys : List (List Value)}
    (hys : ys.flatten = xs) (hlen : l.length = ys.length) (hR : ∀ (i : Nat) x cs, l[i]? = some x → ys[i]? = some cs → τ.R w NoE x cs) : Sl τ b n cap l w NoE := by
  obtain ⟨fp, ho⟩ := hm.osc
  exact Row.sl (ho i _ hi).1 (fun _ _ h => h) hs' hys hlen hR
end
theorem flatMap_flatten {α : Type} (f : α → List Value) (l : List α) : (l.map f).flatten = l.flatMap f := rfl
/-- Flat elements of an owned row, as data for a callee that only reads. -/
theorem sl_rowF {α : Type} (τ : Ty α) (enc : α → List Value) (hτ : ∀ W E x, τ.R W E x (enc x)) (i : Nat) {C : Ctx} {W : World} {E : Nat → Prop} {ns : List Nat} {hs : List HB} {os : List OP} {tm : List AV} {e size : Nat} {b : Option Addr} {n cap : Nat} {l : List α} {w : World}
    (hm : Mod C ⟨W, E, ns, hs, os, tm⟩ w) (hi : os[i]? = some (rowP e size b n cap (l.flatMap enc))) (hs' : size = τ.size) : Sl τ b n cap l w NoE :=
  sl_row i hm hi hs' (ys := l.map enc) (flatMap_flatten enc l) (by simp) fun j x cs hx hc => by
    rw [List.getElem?_map, hx] at hc
    simp only [Option.map_some, Option.some.injEq] at hc
    subst hc; exact hτ w NoE x

theorem flatten_length {size : Nat} : ∀ {ys : List (List Value)}, (∀ cs ∈ ys, cs.length = size) → ys.flatten.length = ys.length * size
  | [], _ => by simp
  | y :: ys, h => by rw [List.flatten_cons, List.length_append, flatten_length fun cs hc => h cs (by simp [hc]), h y (by simp), List.length_cons, Nat.succ_mul]; omega
theorem flatten_inv {size : Nat} : ∀ {ys : List (List Value)} {j : Nat} {v : Value}, (∀ cs ∈ ys, cs.length = size) → ys.flatten[j]? = some v → ∃ i k cs, j = i * size + k ∧ ys[i]? = some cs ∧ cs[k]? = some v
  | [], _, _, _, h => by simp at h
  | y :: ys, j, v, h, hj => by
    rw [List.flatten_cons] at hj
    have hy := h y (by simp)
    by_cases hlt : j < y.length
    · rw [List.getElem?_append_left hlt] at hj
      exact ⟨0, j, y, by omega, rfl, hj⟩
    · rw [List.getElem?_append_right (by omega)] at hj
      obtain ⟨i, k, cs, e, h1, h2⟩ := flatten_inv (fun cs hc => h cs (by simp [hc])) hj
      exact ⟨i + 1, k, cs, by rw [Nat.succ_mul]; omega, by simpa using h1, h2⟩
/-- The cells of a slice that is data, one behind the other. -/
theorem Sl.rows {α : Type} {τ : Ty α} {b : Option Addr} {n c : Nat} {l : List α} {W : World} {E : Nat → Prop} (h : Sl τ b n c l W E) : ∃ ys : List (List Value), ys.length = l.length ∧ (∀ (i : Nat) x cs, l[i]? = some x → ys[i]? = some cs → τ.R W E x cs) ∧
    (∀ u ∈ ys.flatten, u.oneCell' = true) ∧ ys.flatten.length = n * τ.size ∧ ∀ ad, b = some ad → ∀ (j : Nat) v, ys.flatten[j]? = some v → ¬ E ad.block ∧ W.cell? (ad.add j) = some v := by
  have key : ∀ i : Fin l.length, ∃ cs : List Value, (∀ ad, b = some ad → Dat W E (ad.add (i.1 * τ.size)) cs) ∧ τ.R W E (l[i.1]'i.2) cs := fun i => by
    obtain ⟨ad, cs, e, hd, hr⟩ := h.get i.1 _ (List.getElem?_eq_getElem i.2)
    exact ⟨cs, fun ad' e' => by rw [e] at e'; cases e'; exact hd, hr⟩
  have hget : ∀ (i : Nat) cs, (List.ofFn fun i => Classical.choose (key i))[i]? = some cs → ∃ hi : i < l.length, cs = Classical.choose (key ⟨i, hi⟩) := fun i cs hc => by
    rw [List.getElem?_ofFn] at hc
    split at hc
    · rename_i hi; simp only [Option.some.injEq] at hc; exact ⟨hi, hc.symm⟩
    · cases hc
  have hlen : ∀ cs ∈ (List.ofFn fun i => Classical.choose (key i)), cs.length = τ.size := fun cs hcs => by
    obtain ⟨i, hi, e⟩ := List.getElem_of_mem hcs
    obtain ⟨hi', e'⟩ := hget i cs (by rw [List.getElem?_eq_getElem hi, e])
    rw [e']
    exact τ.len (Classical.choose_spec (key ⟨i, hi'⟩)).2
  refine ⟨List.ofFn fun i => Classical.choose (key i), by simp, fun i x cs hx hc => ?_, fun u hu => ?_, ?_, fun ad e j v hj => ?_⟩
  · obtain ⟨hi, rfl⟩ := hget i cs hc
    rw [List.getElem?_eq_getElem hi] at hx
    simp only [Option.some.injEq] at hx; subst hx
    exact (Classical.choose_spec (key ⟨i, hi⟩)).2
  · obtain ⟨cs, hcs, hu⟩ := List.mem_flatten.1 hu
    obtain ⟨i, hi, e⟩ := List.getElem_of_mem hcs
    obtain ⟨hi', e'⟩ := hget i cs (by rw [List.getElem?_eq_getElem hi, e])
    rw [e'] at hu
    exact τ.one (Classical.choose_spec (key ⟨i, hi'⟩)).2 u hu
  · rw [flatten_length hlen, List.length_ofFn, h.len]
  · obtain ⟨i, k, cs, rfl, h1, h2⟩ := flatten_inv hlen hj
    obtain ⟨hi, rfl⟩ := hget i cs h1
    have hd := (Classical.choose_spec (key ⟨i, hi⟩)).1 ad e
    have h3 := hd.c.at_ k v h2
    rw [add_add] at h3
    exact ⟨by have := hd.c.free; rwa [add_block] at this, h3⟩
theorem Sl.rowsF {α : Type} {τ : Ty α} {enc : α → List Value} (hτ : ∀ W E x cs, τ.R W E x cs → cs = enc x) {b : Option Addr} {n c : Nat} {l : List α} {W : World} {E : Nat → Prop} (h : Sl τ b n c l W E) :
    (∀ u ∈ l.flatMap enc, u.oneCell' = true) ∧ (l.flatMap enc).length = n * τ.size ∧ ∀ ad, b = some ad → ∀ (j : Nat) v, (l.flatMap enc)[j]? = some v → ¬ E ad.block ∧ W.cell? (ad.add j) = some v := by
  obtain ⟨ys, h1, h2, h3, h4, h5⟩ := h.rows
  have : ys = l.map enc := by
    apply List.ext_getElem?
    intro i
    rw [List.getElem?_map]
    cases hx : l[i]? with
    | none => rw [Option.map_none, List.getElem?_eq_none_iff, h1]; exact List.getElem?_eq_none_iff.1 hx
    | some x =>
      have hi := (List.getElem?_eq_some_iff.1 hx).1
      have hy : ys[i]? = some (ys[i]'(by omega)) := List.getElem?_eq_getElem _
      rw [hy, hτ _ _ _ _ (h2 i x _ hx hy)]; rfl
  subst this
  exact ⟨h3, h4, h5⟩
theorem rd_cells {W : World} {E : Nat → Prop} {ns : List Nat} {hs : List HB} {os : List OP} {tm : List AV} {ad : Addr} {cs : List Value} (h : ∀ (j : Nat) v, cs[j]? = some v → ¬ E ad.block ∧ W.cell? (ad.add j) = some v) : RdAt ⟨W, E, ns, hs, os, tm⟩ ad cs :=
  ⟨fun C w hm j v hj => by
    obtain ⟨h1, h2⟩ := h j v hj
    have hlt : ad.block < W.heap.size := by have := World.block_lt_of_cell? _ _ h2; rwa [add_block] at this
    rw [← h2]
    exact World.cell?_of_block (by rw [add_block]; exact (hm.data hlt h1).2)⟩
theorem stE {P : World → (Nat → Prop) → Prop} [hP : Stb P] {w : World} {X : Nat → Prop} (h : P w X) : P w (fun b => X b ∧ b < w.heap.size) := hP.later h (Later.mono w fun _ hb => hb.1)
theorem Row.slF {α : Type} (τ : Ty α) (enc : α → List Value) (hτ : ∀ W E x, τ.R W E x (enc x)) {e size : Nat} {b : Option Addr} {n cap : Nat} {l : List α} {F : Nat → Prop} {W : World} {E : Nat → Prop}
    (h : (rowP e size b n cap (l.flatMap enc)).φ F W) (hF : ∀ g, F g → ¬ E g) (hs' : size = τ.size) : Sl τ b n cap l W E :=
  Row.sl h hF hs' (ys := l.map enc) (flatMap_flatten enc l) (by simp) fun j x cs hx hc => by
    rw [List.getElem?_map, hx] at hc
    simp only [Option.map_some, Option.some.injEq] at hc
    subst hc; exact hτ W E x
theorem Dat.rdI {W : World} {E : Nat → Prop} {ns : List Nat} {hs : List HB} {os : List OP} {tm : List AV} {a : Addr} {cs : List Value} {i k : Nat} (h : Dat W E (a.add (i * k)) cs) {z : Int} (hz : z = (i : Int)) : RdAt ⟨W, E, ns, hs, os, tm⟩ (a.add (z.toNat * k)) cs := by
  subst hz; exact h.rd
theorem flatMap_at {α : Type} {enc : α → List Value} {size : Nat} (hs : ∀ x, (enc x).length = size) : ∀ {l : List α} {i : Nat} {x : α}, l[i]? = some x → ((l.flatMap enc).drop (i * size)).take (enc x).length = enc x
  | [], _, _, h => by simp at h
  | y :: l, 0, x, h => by
    simp at h; subst h
    simp
  | y :: l, i + 1, x, h => by
    rw [List.flatMap_cons, Nat.succ_mul, Nat.add_comm, ← List.drop_drop, ← hs y, List.drop_left, hs y]
    exact flatMap_at hs (by simpa using h)
end Go.Ev
