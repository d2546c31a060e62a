/- A symbolic walk: what single operations come to, reckoned over the walk's states; conditions: the table of types is the program's. -/
import Derived.Test.YtojhoeogikdjoaaGreatDoorEvBase
set_option linter.unusedVariables false
set_option linter.unusedSimpArgs false
namespace Go.Ev
open Go.RowKit

/-! ### the table of types -/
inductive TK where
  | other
  | int (kd : IntKind)
  | bool
  | str
  | struct (fs : List (Nat × Nat × Bool))
  | arr (n esz : Nat) (eagg : Bool)
  | slice (e esz : Nat)
  | map (k e : Nat)
  | ptr

structure TD where
  size : Nat
  zero : List Value
  k : TK

def aggB : TypeDesc → Bool
  | .struct _ | .array _ _ => true
  | _ => false

def szB (P : Program) (t : TypeId) : Option (Nat × Bool) :=
  match P.info? t, P.underlying t with
  | some i, some d => some (i.size, aggB d)
  | _, _ => none

def fsB (P : Program) : List Field → Option (List (Nat × Nat × Bool))
  | [] => some []
  | f :: fs => match szB P f.type, fsB P fs with
    | some (s, b), some l => some ((f.offset, s, b) :: l)
    | _, _ => none

def tkOf (P : Program) : TypeDesc → Option TK
  | .int kd => some (.int kd)
  | .bool => some .bool
  | .string => some .str
  | .struct fs => (fsB P fs.toList).map .struct
  | .array n e => (szB P e).map fun (s, b) => .arr n s b
  | .slice e => (szB P e).map fun (s, _) => .slice e s
  | .map k e => some (.map k e)
  | .pointer _ => some .ptr
  | _ => some .other

def tdOf (P : Program) (t : TypeId) : Option TD :=
  match P.info? t, P.underlying t with
  | some i, some d => match i.zero, tkOf P d with
    | some z, some k => some { size := i.size, zero := z.cells.toList, k }
    | _, _ => none
  | _, _ => none

inductive Tr where
  | leaf
  | node (l : Tr) (k : Nat) (d : TD) (r : Tr)

def Tr.look : Tr → Nat → Option TD
  | .leaf, _ => none
  | .node l k d r, t => match Nat.beq t k with
    | true => some d
    | false => match Nat.blt t k with
      | true => l.look t
      | false => r.look t

def Tr.OK (P : Program) : Tr → Prop
  | .leaf => True
  | .node l k d r => l.OK P ∧ tdOf P k = some d ∧ r.OK P

theorem Tr.look_ok {P : Program} : ∀ {T : Tr}, T.OK P → ∀ {t d}, T.look t = some d → tdOf P t = some d
  | .leaf, _, _, _, h => by simp [Tr.look] at h
  | .node l k d' r, ok, t, d, h => by
    simp only [Tr.look] at h
    cases hb : Nat.beq t k with
    | true =>
      rw [hb] at h; simp only [Option.some.injEq] at h
      have e : t = k := Nat.eq_of_beq_eq_true hb
      subst e; subst h; exact ok.2.1
    | false =>
      rw [hb] at h; simp only at h
      cases hl : Nat.blt t k with
      | true => rw [hl] at h; exact Tr.look_ok ok.1 h
      | false => rw [hl] at h; exact Tr.look_ok ok.2.2 h

/-! ### what the table gives -/
theorem tdOf_info {P : Program} {t : TypeId} {d : TD} (h : tdOf P t = some d) :
    ∃ i u z, P.info? t = some i ∧ P.underlying t = some u ∧ i.size = d.size ∧ i.zero = some z ∧ z.cells.toList = d.zero ∧ tkOf P u = some d.k := by
  unfold tdOf at h
  split at h
  · rename_i i u hi hu
    split at h
    · rename_i z k hz hk
      simp only [Option.some.injEq] at h
      subst h
      exact ⟨i, u, z, hi, hu, rfl, hz, rfl, hk⟩
    · cases h
  · cases h

section runs
variable {P : Program} {t : TypeId} {d : TD} {w : World}

theorem run_info {i : TypeInfo} (h : P.info? t = some i) : (typeInfo t).run P w = .ok i w := by
  simp [typeInfo, program, bind, Sem.bind, Sem.run, h, pure]
theorem run_sizeOf {i : TypeInfo} (h : P.info? t = some i) : (sizeOf t).run P w = .ok i.size w := by
  simp [sizeOf, typeInfo, program, bind, Sem.bind, Sem.run, h, pure]
theorem run_underlying {u : TypeDesc} (h : P.underlying t = some u) : (underlying t).run P w = .ok u w := by
  simp [underlying, program, bind, Sem.bind, Sem.run, h, pure]
theorem run_isAgg {u : TypeDesc} (h : P.underlying t = some u) : (isAgg t).run P w = .ok (aggB u) w := by
  cases u <;> simp [isAgg, underlying, program, bind, Sem.bind, Sem.run, h, pure, aggB]
theorem run_zero {i : TypeInfo} {z : Value} (h : P.info? t = some i) (hz : i.zero = some z) : (zeroValue t).run P w = .ok z w := by
  simp [zeroValue, typeInfo, program, bind, Sem.bind, Sem.run, h, pure, hz]

theorem run_bind {α β : Type} {x : Sem α} {f : α → Sem β} {a : α} {w' : World} (h : x.run P w = .ok a w') : (x >>= f).run P w = (f a).run P w' := by
  show (x.bind f).run P w = _
  induction x generalizing w with
  | pure b => simp only [Sem.run, Result.ok.injEq] at h; obtain ⟨rfl, rfl⟩ := h; rfl
  | load m ad k ih =>
    simp only [Sem.run, Sem.bind] at h ⊢
    split at h
    · exact ih _ h
    · split at h
      · exact ih _ h
      · cases h
  | store m ad v k ih =>
    cases v <;> simp only [Sem.run, Sem.bind] at h ⊢ <;> first
      | (cases h; done)
      | (split at h
         · split at h
           · cases h
           · rename_i h1; simp only [h1] at h ⊢; exact ih h
         · split at h
           · exact ih h
           · cases h)
  | new o k ih => simp only [Sem.run, Sem.bind] at h ⊢; exact ih _ h
  | shape r k ih => simp only [Sem.run, Sem.bind] at h ⊢; exact ih _ h
  | freeze ad n k ih => simp only [Sem.run, Sem.bind] at h ⊢; exact ih h
  | frozen ad k ih => simp only [Sem.run, Sem.bind] at h ⊢; exact ih _ h
  | getObj r k ih =>
    simp only [Sem.run, Sem.bind] at h ⊢
    split at h
    · cases h
    · exact ih _ h
    · cases h
  | setObj r o k ih =>
    simp only [Sem.run, Sem.bind] at h ⊢
    split at h
    · cases h
    · exact ih h
    · cases h
  | choose q k ih =>
    simp only [Sem.run, Sem.bind] at h ⊢
    split at h
    · rename_i hq; rw [if_pos hq]; exact ih _ h
    · rename_i hq; rw [if_neg hq]; exact ih _ h
  | sys c k ih => simp only [Sem.run, Sem.bind] at h ⊢; exact ih _ h
  | program k ih => simp only [Sem.run, Sem.bind] at h ⊢; exact ih _ h
  | mark m k ih => simp only [Sem.run, Sem.bind] at h ⊢; exact ih h
  | halt hh => simp only [Sem.run] at h; cases h

theorem run_bind_const {α β : Type} {x : Sem α} {f : α → Sem β} {a : α} (h : ∀ w, x.run P w = .ok a w) : (x >>= f).run P w = (f a).run P w := run_bind (h w)
theorem run_pure {α : Type} (a : α) : (pure a : Sem α).run P w = .ok a w := rfl
end runs

end Go.Ev
