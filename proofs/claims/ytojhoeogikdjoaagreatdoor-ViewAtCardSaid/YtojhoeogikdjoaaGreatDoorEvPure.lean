/- A symbolic walk: operations that leave the world alone, reckoned; conditions: the table of types is the program's. -/
import Derived.Test.YtojhoeogikdjoaaGreatDoorEvOps
set_option linter.unusedSimpArgs false
set_option linter.unusedVariables false
namespace Go.Ev
open Go.RowKit

/-! ### handing terms on in full -/
def forceF : Lf → (Lf → Prop) → Prop
  | .v x, k => k (.v x)
  | .tt, k => k .tt
  | .ff, k => k .ff
  | .p t o, k => k (.p t o)
  | .any, k => k .any
def forceLs : List Lf → (List Lf → Prop) → Prop
  | [], k => k []
  | l :: ls, k => forceF l fun l => forceLs ls fun ls => k (l :: ls)
def forceU : List (Bool × List Lf) → (List (Bool × List Lf) → Prop) → Prop
  | [], k => k []
  | (true, ls) :: es, k => forceLs ls fun ls => forceU es fun es => k ((true, ls) :: es)
  | (false, ls) :: es, k => forceLs ls fun ls => forceU es fun es => k ((false, ls) :: es)
def force : AV → (AV → Prop) → Prop
  | .one l, k => forceF l fun l => k (.one l)
  | .s ls, k => forceLs ls fun ls => k (.s ls)
  | .u es, k => forceU es fun es => k (.u es)
theorem forceF_eq (l : Lf) (k : Lf → Prop) : forceF l k = k l := by cases l <;> rfl
theorem forceLs_eq : ∀ (l : List Lf) (k : List Lf → Prop), forceLs l k = k l
  | [], _ => rfl
  | l :: ls, k => by simp only [forceLs, forceF_eq]; rw [forceLs_eq ls]
theorem forceU_eq : ∀ (l : List (Bool × List Lf)) (k : List (Bool × List Lf) → Prop), forceU l k = k l
  | [], _ => rfl
  | (true, ls) :: es, k => by simp only [forceU, forceLs_eq]; rw [forceU_eq es]
  | (false, ls) :: es, k => by simp only [forceU, forceLs_eq]; rw [forceU_eq es]
theorem force_eq (a : AV) (k : AV → Prop) : force a k = k a := by cases a <;> simp [force, forceF_eq, forceLs_eq, forceU_eq]

def getK : List AV → Nat → (AV → Prop) → Prop
  | [], _, k => k (.one (.v undef))
  | a :: _, 0, k => k a
  | _ :: l, n + 1, k => getK l n k
theorem getK_eq : ∀ (l : List AV) (n : Nat) (k : AV → Prop), getK l n k = k (l.getD n (.one (.v undef)))
  | [], _, _ => by simp [getK]
  | a :: l, 0, _ => by simp [getK]
  | a :: l, n + 1, k => by simp only [getK]; rw [getK_eq l n k]; simp

def setK : List AV → Nat → AV → (List AV → Prop) → Prop
  | [], _, _, k => k []
  | _ :: l, 0, v, k => k (v :: l)
  | a :: l, n + 1, v, k => setK l n v fun l => k (a :: l)
theorem setK_eq : ∀ (l : List AV) (n : Nat) (v : AV) (k : List AV → Prop), setK l n v k = k (l.set n v)
  | [], _, _, _ => rfl
  | a :: l, 0, _, _ => rfl
  | a :: l, n + 1, v, k => by simp only [setK]; rw [setK_eq l n v]; rfl

def constA : Value → AV
  | .bool true => .one .tt
  | .bool false => .one .ff
  | .agg cs => .s (cs.toList.map .v)
  | v => .one (.v v)

def opA (tm : List AV) : Operand → AV
  | .tmp t => tm.getD t (.one (.v undef))
  | .const v => constA v
  | .global g => .one (.v (.pointer (some ⟨g, 0, none⟩)))
  | .func f => .one (.v (.func (.func f) #[] #[]))

def opK (tm : List AV) (x : Operand) (k : AV → Prop) : Prop :=
  match x with
  | .tmp t => getK tm t k
  | .const v => force (constA v) k
  | .global g => k (.one (.v (.pointer (some ⟨g, 0, none⟩))))
  | .func f => k (.one (.v (.func (.func f) #[] #[])))
theorem opK_eq (tm : List AV) (x : Operand) (k : AV → Prop) : opK tm x k = k (opA tm x) := by
  cases x <;> simp [opK, opA, getK_eq, force_eq]

theorem constA_R (ns : List Nat) (v : Value) : (constA v).R ns v := by
  cases v with
  | bool b => cases b <;> rfl
  | agg cs => exact ⟨cs.toList, by simp, LR.of_v _⟩
  | _ => rfl

theorem opA_R {S : St} {a : Act} (h : Sim S a) (x : Operand) : (opA S.tm x).R S.ns (a.eval x) := by
  cases x with
  | tmp t =>
    simp only [opA, Act.eval]
    cases e : S.tm[t]? with
    | none =>
      have e2 : a.tmps.toList[t]? = none := by
        rw [List.getElem?_eq_none_iff] at e ⊢
        rw [← TR.length h.t]; exact e
      have e3 : a.tmps[t]? = none := by rw [← Array.getElem?_toList]; exact e2
      simp [List.getD_eq_getElem?_getD, e, Array.getD_eq_getD_getElem?, e3, AV.R, Lf.R]
    | some l =>
      obtain ⟨c, hc, hr⟩ := TR.get h.t t l e
      have e3 : a.tmps[t]? = some c := by rw [← Array.getElem?_toList]; exact hc
      simpa [List.getD_eq_getElem?_getD, e, Array.getD_eq_getD_getElem?, e3] using hr
  | const v => exact constA_R _ v
  | global g => rfl
  | func f => rfl

/-- The leaves of a slot. -/
def AV.leaves : AV → List Lf
  | .one l => [l]
  | .s ls => ls
  | .u _ => [.any]
/-- A leaf that is a cell's value for sure. -/
def Lf.cell : Lf → Bool
  | .v (.agg _) => false
  | .v (.tuple _) => false
  | .v (.int _ _) => true
  | .v (.bool _) => true
  | .v (.slice _ _ _) => true
  | .v (.pointer _) => true
  | .v (.map _) => true
  | .v (.string _) => true
  | .v (.func _ _ _) => true
  | .v .nilFunc => true
  | .v .nilIface => true
  | .v (.iface _ _) => true
  | .v _ => false
  | .tt => true
  | .ff => true
  | .p _ _ => true
  | .any => false
def cellsB : List Lf → Bool
  | [] => true
  | l :: ls => match l.cell with | true => cellsB ls | false => false
theorem Lf.cell_one {ns : List Nat} {l : Lf} {y : Value} (hc : l.cell = true) (h : l.R ns y) : y.oneCell = true ∧ y.cells = #[y] := by
  cases l with
  | v x => simp only [Lf.R] at h; subst h; cases y <;> simp_all [Lf.cell, Value.oneCell, Value.cells]
  | tt => simp only [Lf.R] at h; subst h; exact ⟨rfl, rfl⟩
  | ff => simp only [Lf.R] at h; subst h; exact ⟨rfl, rfl⟩
  | p t o => simp only [Lf.R] at h; subst h; exact ⟨rfl, rfl⟩
  | any => cases hc
theorem cellsB_one {ns : List Nat} : ∀ {ls : List Lf} {cs : List Value}, cellsB ls = true → LR ns ls cs → ∀ c ∈ cs, c.oneCell = true
  | [], [], _, _ => by simp
  | l :: ls, c :: cs, hb, h => by
    have h1 : l.cell = true := by cases e : l.cell <;> simp [cellsB, e] at hb ⊢
    have h2 : cellsB ls = true := by simpa [cellsB, h1] using hb
    intro x hx
    rcases List.mem_cons.1 hx with rfl | hx
    · exact (Lf.cell_one h1 h.1).1
    · exact cellsB_one h2 h.2 x hx
  | [], _ :: _, _, h => h.elim
  | _ :: _, [], _, h => h.elim

theorem AV.leaves_R {ns : List Nat} {a : AV} {y : Value} (hc : cellsB a.leaves = true) (h : a.R ns y) : LR ns a.leaves y.cells.toList := by
  cases a with
  | one l =>
    have h' : l.R ns y := h
    have hc' : l.cell = true := by cases e2 : l.cell <;> simp [AV.leaves, cellsB, e2] at hc ⊢
    rw [(Lf.cell_one hc' h').2]; exact ⟨h', trivial⟩
  | u es => simp [AV.leaves, cellsB, Lf.cell] at hc
  | s ls => obtain ⟨cs, rfl, hl⟩ := h; simpa [Value.cells, AV.leaves] using hl

/-! ### running -/
section
variable {P : Program} {w : World}
theorem run_v {s : Sem Value} {y : Value} (h : s.run P w = .ok y w) : (do pure (Next.value (← s)) : Sem Next).run P w = .ok (.value y) w := by
  rw [run_bind h]; rfl
theorem run_u {s : Sem Unit} {w' : World} (h : s.run P w = .ok () w') : (do s; pure Next.skip : Sem Next).run P w = .ok .skip w' := by
  rw [run_bind h]; rfl
end

/-- In every state that fits, operation 'o' yields what 'r' says and leaves the world alone. -/
def Qr (C : Ctx) (S : St) (o : Oper) (r : AV) : Prop := ∀ a, Sim S a → ∃ y, r.R S.ns y ∧ ∀ w, Mod C S w → (execOp a.eval o).run C.P w = .ok (.value y) w

/-! ### values of slots -/
def getN : List Nat → Nat → (Nat → Prop) → Prop
  | [], _, k => k 0
  | n :: _, 0, k => k n
  | _ :: l, t + 1, k => getN l t k
theorem getN_eq : ∀ (l : List Nat) (t : Nat) (k : Nat → Prop), getN l t k = k (l.getD t 0)
  | [], _, _ => by simp [getN]
  | n :: l, 0, _ => by simp [getN]
  | _ :: l, t + 1, k => by simp only [getN]; rw [getN_eq l t k]; simp

def lfK (ns : List Nat) : Lf → (Value → Prop) → Prop
  | .v x, k => k x
  | .tt, k => k (.bool true)
  | .ff, k => k (.bool false)
  | .p t o, k => getN ns t fun n => k (.pointer (some ⟨n, o, none⟩))
  | .any, _ => False
theorem lfK_sound {ns : List Nat} {l : Lf} {k : Value → Prop} (h : lfK ns l k) : ∃ x, k x ∧ ∀ y, l.R ns y → y = x := by
  cases l <;> simp only [lfK] at h
  · exact ⟨_, h, fun _ e => e⟩
  · exact ⟨_, h, fun _ e => e⟩
  · exact ⟨_, h, fun _ e => e⟩
  · rw [getN_eq] at h; exact ⟨_, h, fun _ e => e⟩
def lfsK (ns : List Nat) : List Lf → (List Value → Prop) → Prop
  | [], k => k []
  | l :: ls, k => lfK ns l fun x => lfsK ns ls fun xs => k (x :: xs)
theorem lfsK_sound {ns : List Nat} : ∀ {ls : List Lf} {k : List Value → Prop}, lfsK ns ls k → ∃ xs, k xs ∧ ∀ ys, LR ns ls ys → ys = xs
  | [], k, h => ⟨[], h, fun ys hy => by cases ys with | nil => rfl | cons => exact hy.elim⟩
  | l :: ls, k, h => by
    obtain ⟨x, hx, hu⟩ := lfK_sound h
    obtain ⟨xs, hxs, hus⟩ := lfsK_sound hx
    refine ⟨x :: xs, hxs, fun ys hy => ?_⟩
    cases ys with
    | nil => exact hy.elim
    | cons y ys => rw [hu y hy.1, hus ys hy.2]
def avK (ns : List Nat) : AV → (Value → Prop) → Prop
  | .one l, k => lfK ns l k
  | .s ls, k => lfsK ns ls fun xs => k (.agg xs.toArray)
  | .u _, _ => False
theorem avK_sound {ns : List Nat} {a : AV} {k : Value → Prop} (h : avK ns a k) : ∃ x, k x ∧ ∀ y, a.R ns y → y = x := by
  cases a with
  | one l => exact lfK_sound h
  | s ls =>
    obtain ⟨xs, hk, hu⟩ := lfsK_sound h
    exact ⟨_, hk, fun y ⟨cs, e, hl⟩ => by rw [e, hu cs hl]⟩
  | u es => exact h.elim
/-- The values of operands. -/
def argsK (ns : List Nat) (tm : List AV) : List Operand → (List Value → Prop) → Prop
  | [], k => k []
  | x :: xs, k => opK tm x fun a => avK ns a fun v => argsK ns tm xs fun vs => k (v :: vs)
theorem argsK_sound {S : St} : ∀ {xs : List Operand} {k : List Value → Prop}, argsK S.ns S.tm xs k → ∃ vs, k vs ∧ ∀ a, Sim S a → xs.map a.eval = vs
  | [], k, h => ⟨[], h, fun _ _ => rfl⟩
  | x :: xs, k, h => by
    simp only [argsK, opK_eq] at h
    obtain ⟨v, hv, hu⟩ := avK_sound h
    obtain ⟨vs, hvs, hus⟩ := argsK_sound hv
    exact ⟨v :: vs, hvs, fun a hs => by rw [List.map_cons, hu _ (opA_R hs x), hus a hs]⟩

/-! ### whole numbers -/
def kdB : IntKind → IntKind → Bool
  | .i8, .i8 | .i16, .i16 | .i32, .i32 | .i64, .i64 | .u8, .u8 | .u16, .u16 | .u32, .u32 | .u64, .u64 => true
  | _, _ => false
theorem kdB_eq {a b : IntKind} (h : kdB a b = true) : a = b := by cases a <;> cases b <;> first | rfl | cases h

def binI (op : BinOp) (kd : IntKind) (x y : Int) (k : AV → Prop) : Prop :=
  match op with
  | .add => k (.one (.v (.int kd (kd.wrap (x + y)))))
  | .sub => k (.one (.v (.int kd (kd.wrap (x - y)))))
  | .mul => k (.one (.v (.int kd (kd.wrap (x * y)))))
  | .quo => y ≠ 0 ∧ k (.one (.v (.int kd (kd.wrap (x.tdiv y)))))
  | .rem => y ≠ 0 ∧ k (.one (.v (.int kd (x.tmod y))))
  | .and => k (.one (.v (.int kd (kd.wrap ((BitVec.ofInt kd.bits x &&& BitVec.ofInt kd.bits y).toNat : Int)))))
  | .or => k (.one (.v (.int kd (kd.wrap ((BitVec.ofInt kd.bits x ||| BitVec.ofInt kd.bits y).toNat : Int)))))
  | .xor => k (.one (.v (.int kd (kd.wrap ((BitVec.ofInt kd.bits x ^^^ BitVec.ofInt kd.bits y).toNat : Int)))))
  | .andNot => k (.one (.v (.int kd (kd.wrap ((BitVec.ofInt kd.bits x &&& ~~~BitVec.ofInt kd.bits y).toNat : Int)))))
  | .eql => k (.one (.v (.bool (x == y))))
  | .neq => k (.one (.v (.bool (x != y))))
  | .lss => k (.one (.v (.bool (decide (x < y)))))
  | .leq => k (.one (.v (.bool (decide (x ≤ y)))))
  | .gtr => k (.one (.v (.bool (decide (x > y)))))
  | .geq => k (.one (.v (.bool (decide (x ≥ y)))))
  | .shl => 0 ≤ y ∧ k (.one (.v (.int kd (kd.wrap (x * 2 ^ (min y.toNat kd.bits))))))
  | .shr => 0 ≤ y ∧ k (.one (.v (.int kd (x.fdiv (2 ^ (min y.toNat kd.bits))))))

def shB : BinOp → Bool
  | .shl | .shr => true
  | _ => false

theorem mkR {α : Sem Value} {P : Program} {k : AV → Prop} {v : Value} (ns : List Nat) (h : k (.one (.v v))) (hr : ∀ w, α.run P w = .ok v w) :
    ∃ (r : AV) (v : Value), r.R ns v ∧ k r ∧ ∀ w, α.run P w = .ok v w := ⟨.one (.v v), v, rfl, h, hr⟩

theorem binI_sound {op : BinOp} {kd kd' : IntKind} {x y : Int} {k : AV → Prop} (h : binI op kd x y k) (hk : shB op = false → kd = kd') (ns : List Nat) (P : Program) (t : TypeId) :
    ∃ (r : AV) (v : Value), r.R ns v ∧ k r ∧ ∀ w, (binOp op t (.int kd x) (.int kd' y)).run P w = .ok v w := by
  cases op
  case shl => have h0 : ¬ y < 0 := by have := h.1; omega
              exact mkR ns h.2 fun w => by simp [binOp, Op.shift, h0, Sem.run, pure]
  case shr => have h0 : ¬ y < 0 := by have := h.1; omega
              exact mkR ns h.2 fun w => by simp [binOp, Op.shift, h0, Sem.run, pure]
  case quo => obtain rfl := hk rfl; exact mkR ns h.2 fun w => by simp [binOp, Op.intDiv, h.1, Sem.run, pure]
  case rem => obtain rfl := hk rfl; exact mkR ns h.2 fun w => by simp [binOp, Op.intDiv, h.1, Sem.run, pure]
  all_goals first
    | (obtain rfl := hk rfl; exact mkR ns h fun w => by simp [binOp, Op.intArith, Op.intBits, Op.intCmp, Sem.run, pure])

/-- What a value is as a slot. -/
def ofVal : Value → AV
  | .agg cs => .s (cs.toList.map .v)
  | v => .one (.v v)
theorem ofVal_R (ns : List Nat) (v : Value) : (ofVal v).R ns v := by
  cases v with
  | agg cs => exact ⟨cs.toList, by simp, LR.of_v _⟩
  | _ => rfl

/-! ### cells in old memory -/
structure CellsAt (W : World) (E : Nat → Prop) (a : Addr) (cs : List Value) : Prop where
  free : ¬ E a.block
  at_ : ∀ i v, cs[i]? = some v → W.cell? (a.add i) = some v

theorem CellsAt.now {C : Ctx} {S : St} {a : Addr} {cs : List Value} (h : CellsAt S.W S.E a cs) {w : World} (hm : Mod C S w) (i : Nat) (v : Value) (hi : cs[i]? = some v) :
    w.cell? (a.add i) = some v := by
  have h1 := h.at_ i v hi
  have hb : (a.add i).block = a.block := by unfold Addr.add; split <;> rfl
  have hlt : (a.add i).block < S.W.heap.size := World.block_lt_of_cell? _ _ h1
  have h2 := (hm.data (hb ▸ hlt) h.free).2
  rw [← h1]
  exact World.cell?_of_block (by rw [hb, h2])

/-- What is read at an address, in all worlds of the class. -/
structure RdAt (S : St) (a : Addr) (cs : List Value) : Prop where
  go : ∀ (C : Ctx) (w : World), Mod C S w → ∀ i v, cs[i]? = some v → w.cell? (a.add i) = some v
theorem CellsAt.rd {S : St} {a : Addr} {cs : List Value} (h : CellsAt S.W S.E a cs) : RdAt S a cs := ⟨fun _ _ hm i v hi => h.now hm i v hi⟩

theorem run_load {P : Program} {w : World} {a : Addr} {v : Value} (h : w.cell? a = some v) : (load a).run P w = .ok v w := by
  simp [load, Sem.run, h]
theorem run_loadCells {P : Program} {w : World} {a : Addr} : ∀ (n i : Nat) (acc : Array Value) (cs : List Value), cs.length = n → (∀ j v, cs[j]? = some v → w.cell? (a.add (i + j)) = some v) →
    (loadCellsFrom a i n acc).run P w = .ok (acc ++ cs.toArray) w
  | 0, _, _, cs, hl, _ => by
    obtain rfl : cs = [] := List.eq_nil_of_length_eq_zero hl
    simp [loadCellsFrom, Sem.run, pure]
  | n + 1, i, acc, [], hl, _ => by simp at hl
  | n + 1, i, acc, c :: cs, hl, h => by
    unfold loadCellsFrom
    rw [run_bind (run_load (show w.cell? (a.add i) = some c from h 0 c rfl))]
    rw [run_loadCells n (i + 1) _ cs (by simpa using hl) (fun j v hj => by have := h (j + 1) v (by simpa using hj); rwa [show i + (j + 1) = i + 1 + j by omega] at this)]
    simp


/-! ### the operations that leave the world alone -/
def wrapI (kd : IntKind) (x : Int) : AV := .one (.v (.int kd (kd.wrap x)))

def unK (op : UnOp) (a : AV) (k : AV → Prop) : Prop :=
  match op, a with
  | .not, .one .tt => k (.one .ff)
  | .not, .one .ff => k (.one .tt)
  | .not, .one (.v (.bool b)) => k (.one (.v (.bool !b)))
  | .neg, .one (.v (.int kd n)) => k (.one (.v (.int kd (kd.wrap (0 - n)))))
  | .xor, .one (.v (.int kd n)) => k (.one (.v (.int kd (kd.wrap ((BitVec.ofInt kd.bits (if kd.signed then -1 else kd.max) ^^^ BitVec.ofInt kd.bits n).toNat : Int)))))
  | _, _ => False

/-- '==' of structs or arrays. -/
structure EqVC (P : Program) (t : TypeId) (xs ys : List Value) (k : Bool → Prop) : Prop where
  go : ∃ b, (∀ w, (Op.equal t (.agg xs.toArray) (.agg ys.toArray)).run P w = .ok b w) ∧ (∀ op xo yo w, (eqGuard op t xo yo (.agg xs.toArray) (.agg ys.toArray)).run P w = .ok () w) ∧ k b

/-- '==' and '!=' where one side says it all. -/
def eqK (P : Program) (T : Tr) (ns : List Nat) (t : TypeId) (a b : AV) (k : Bool → Prop) : Prop :=
  match a, b with
  | .s ls, .s ms => lfsK ns ls fun xs => lfsK ns ms fun ys => EqVC P t xs ys k
  | .one (.v (.bool x)), .one (.v (.bool y)) => (match T.look t with | some ⟨_, _, .bool⟩ => k (x == y) | _ => False)
  | .one (.v (.bool x)), .one .tt => (match T.look t with | some ⟨_, _, .bool⟩ => k (x == true) | _ => False)
  | .one (.v (.bool x)), .one .ff => (match T.look t with | some ⟨_, _, .bool⟩ => k (x == false) | _ => False)
  | .one (.v (.slice a _ _)), .one (.v (.slice none _ _)) => (match T.look t with | some ⟨_, _, .slice _ _⟩ => k a.isNone | _ => False)
  | .one (.p _ _), .one (.v (.pointer none)) => (match T.look t with | some ⟨_, _, .ptr⟩ => k false | _ => False)
  | .one (.v (.pointer a)), .one (.v (.pointer none)) => (match T.look t with | some ⟨_, _, .ptr⟩ => k a.isNone | _ => False)
  | _, _ => False

def binK (P : Program) (T : Tr) (ns : List Nat) (op : BinOp) (t : TypeId) (a b : AV) (k : AV → Prop) : Prop :=
  match a, b with
  | .one (.v (.int kd x)), .one (.v (.int kd' y)) => (match shB op with
    | true => binI op kd x y k
    | false => (match kdB kd kd' with | true => binI op kd x y k | false => False))
  | a, b => (match op with
    | .eql => eqK P T ns t a b fun c => k (.one (.v (.bool c)))
    | .neq => eqK P T ns t a b fun c => k (.one (.v (.bool !c)))
    | _ => False)

def nthF : List (Nat × Nat × Bool) → Nat → Option (Nat × Nat × Bool)
  | [], _ => none
  | f :: _, 0 => some f
  | _ :: l, n + 1 => nthF l n
theorem nthF_eq : ∀ (l : List (Nat × Nat × Bool)) (n : Nat), nthF l n = l[n]?
  | [], _ => by simp [nthF]
  | f :: _, 0 => by simp [nthF]
  | _ :: l, n + 1 => by simp [nthF, nthF_eq l n]

def nthL : List Lf → Nat → Option Lf
  | [], _ => none
  | f :: _, 0 => some f
  | _ :: l, n + 1 => nthL l n
theorem nthL_eq : ∀ (l : List Lf) (n : Nat), nthL l n = l[n]?
  | [], _ => by simp [nthL]
  | f :: _, 0 => by simp [nthL]
  | _ :: l, n + 1 => by simp [nthL, nthL_eq l n]

/-- A part of a struct's or an array's cells: of a struct or an array, or one cell. -/
def partK (agg : Bool) (ls : List Lf) (off sz : Nat) (k : AV → Prop) : Prop :=
  match agg with
  | true => (match Nat.ble (off + sz) ls.length with | true => forceLs ((ls.drop off).take sz) fun l => k (.s l) | false => False)
  | false => (match nthL ls off with | some l => forceF l fun l => k (.one l) | none => False)

def fieldAddrK (T : Tr) (t : TypeId) (f : Nat) (a : AV) (k : AV → Prop) : Prop :=
  match T.look t with
  | some ⟨_, _, .struct fs⟩ => (match nthF fs f with
    | some (off, sz, _) => (match sz with
      | 0 => False
      | _ + 1 => (match a with
        | .one (.p t o) => k (.one (.p t (o + off)))
        | .one (.v (.pointer (some a))) => k (.one (.v (.pointer (some (a.add off)))))
        | _ => False))
    | none => False)
  | _ => False

def fieldK (T : Tr) (t : TypeId) (f : Nat) (a : AV) (k : AV → Prop) : Prop :=
  match T.look t with
  | some ⟨_, _, .struct fs⟩ => (match nthF fs f with
    | some (off, sz, ag) => (match a with
      | .s ls => partK ag ls off sz k
      | _ => False)
    | none => False)
  | _ => False

def indexAddrK (T : Tr) (t : TypeId) (x i : AV) (k : AV → Prop) : Prop :=
  match i with
  | .one (.v (.int _ n)) => (match T.look t with
    | some ⟨_, _, .slice _ esz⟩ => (match x with
      | .one (.v (.slice a len _)) => ∃ ad, a = some ad ∧ (0 ≤ n ∧ n < (len : Int)) ∧ k (.one (.v (.pointer (some (ad.add (n.toNat * esz))))))
      | _ => False)
    | some ⟨_, _, .arr len esz _⟩ => (match x with
      | .one (.p t o) => (0 ≤ n ∧ n < (len : Int)) ∧ k (.one (.p t (o + n.toNat * esz)))
      | .one (.v (.pointer (some ad))) => (0 ≤ n ∧ n < (len : Int)) ∧ k (.one (.v (.pointer (some (ad.add (n.toNat * esz))))))
      | _ => False)
    | _ => False)
  | _ => False

def indexK (T : Tr) (t : TypeId) (x i : AV) (k : AV → Prop) : Prop :=
  match i with
  | .one (.v (.int _ n)) => (match T.look t with
    | some ⟨_, _, .arr len esz ag⟩ => (match x with
      | .s ls => (0 ≤ n ∧ n < (len : Int)) ∧ (match ag with
        | false => (match nthL ls (n.toNat * esz) with | some l => forceF l fun l => k (.one l) | none => False)
        | true => False)
      | _ => False)
    | _ => False)
  | _ => False

def nthV : List Value → Nat → Option Value
  | [], _ => none
  | f :: _, 0 => some f
  | _ :: l, n + 1 => nthV l n
theorem nthV_eq : ∀ (l : List Value) (n : Nat), nthV l n = l[n]?
  | [], _ => by simp [nthV]
  | f :: _, 0 => by simp [nthV]
  | _ :: l, n + 1 => by simp [nthV, nthV_eq l n]

def nthU : List (Bool × List Lf) → Nat → Option (Bool × List Lf)
  | [], _ => none
  | f :: _, 0 => some f
  | _ :: l, n + 1 => nthU l n
theorem nthU_sound {ns : List Nat} : ∀ {l : List (Bool × List Lf)} {n : Nat} {e : Bool × List Lf}, nthU l n = some e → ∀ vs : List Value, UR ns l vs → ∃ v, vs[n]? = some v ∧ UR1 ns e v
  | [], _, _, h, _, _ => by simp [nthU] at h
  | f :: _, 0, e, h, v :: vs, hu => by simp [nthU] at h; subst h; exact ⟨v, rfl, hu.1⟩
  | _ :: l, n + 1, e, h, v :: vs, hu => by
    obtain ⟨x, h1, h2⟩ := nthU_sound (l := l) (n := n) (by simpa [nthU] using h) vs hu.2
    exact ⟨x, by simpa using h1, h2⟩
  | _ :: _, _, _, _, [], hu => hu.elim

def extractK (x : AV) (i : Nat) (k : AV → Prop) : Prop :=
  match x with
  | .one (.v (.tuple vs)) => (match nthV vs.toList i with | some v => force (ofVal v) k | none => False)
  | .u es => (match nthU es i with
    | some (true, ls) => forceLs ls fun ls => k (.s ls)
    | some (false, [l]) => forceF l fun l => k (.one l)
    | _ => False)
  | _ => False

/-- Cells laid over others. -/
def splice (zs : List Lf) (off : Nat) (xs : List Lf) : List Lf := zs.take off ++ (xs ++ zs.drop (off + xs.length))

def fillK (tm : List AV) (place : Nat → Option (Nat × Nat)) : List (Nat × Operand) → List Lf → (List Lf → Prop) → Prop
  | [], zs, k => k zs
  | (i, x) :: ps, zs, k => (match place i with
    | none => False
    | some (off, sz) => opK tm x fun a => (match a with
      | .one l => (match l.cell with
        | true => (match Nat.beq sz 1, Nat.ble (off + 1) zs.length with | true, true => forceLs (splice zs off [l]) fun zs => fillK tm place ps zs k | _, _ => False)
        | false => False)
      | .s ls => (match Nat.beq ls.length sz, Nat.ble (off + sz) zs.length with | true, true => forceLs (splice zs off ls) fun zs => fillK tm place ps zs k | _, _ => False)
      | .u _ => False))

def placeS (fs : List (Nat × Nat × Bool)) (i : Nat) : Option (Nat × Nat) :=
  match nthF fs i with
  | some (o, s, _) => some (o, s)
  | none => none
def placeA (esz : Nat) (i : Nat) : Option (Nat × Nat) := some (i * esz, esz)

def buildK (T : Tr) (tm : List AV) (t : TypeId) (ps : List (Nat × Operand)) (k : AV → Prop) : Prop :=
  match T.look t with
  | some ⟨_, z, .struct fs⟩ => forceLs (z.map .v) fun zs => fillK tm (placeS fs) ps zs fun zs => k (.s zs)
  | some ⟨_, z, .arr _ esz _⟩ => forceLs (z.map .v) fun zs => fillK tm (placeA esz) ps zs fun zs => k (.s zs)
  | _ => False

def boundK (x : Option AV) (dflt lim : Nat) (k : Nat → Prop) : Prop :=
  match x with
  | none => k dflt
  | some (.one (.v (.int _ n))) => (0 ≤ n ∧ n ≤ (lim : Int)) ∧ k n.toNat
  | _ => False

def opoK (tm : List AV) (x : Option Operand) (k : Option AV → Prop) : Prop :=
  match x with
  | none => k none
  | some x => opK tm x fun a => k (some a)

/-- Where a slice of a slice begins. -/
def slBase (a : Option Addr) (l m sz : Nat) : Option Addr := if m = l then a else a.map (·.add (l * sz))

def mhB (mx hi : Option AV) : Bool :=
  match mx, hi with
  | some _, none => false
  | _, _ => true

def sliceK (T : Tr) (ns : List Nat) (t : TypeId) (x : AV) (lo hi mx : Option AV) (k : AV → Prop) : Prop :=
  match mhB mx hi with
  | false => False
  | true => match T.look t with
    | some ⟨_, _, .slice _ esz⟩ => (match x with
      | .one (.v (.slice a len cap)) => boundK mx cap cap fun m => boundK hi len m fun h => boundK lo 0 h fun l =>
          k (.one (.v (.slice (slBase a l m esz) (h - l) (m - l))))
      | _ => False)
    | some ⟨_, _, .arr n esz _⟩ => (match x with
      | .one (.p t o) => boundK mx n n fun m => boundK hi n m fun h => boundK lo 0 h fun l => getN ns t fun b =>
          k (.one (.v (.slice (slBase (some ⟨b, o, none⟩) l m esz) (h - l) (m - l))))
      | .one (.v (.pointer (some a))) => boundK mx n n fun m => boundK hi n m fun h => boundK lo 0 h fun l =>
          k (.one (.v (.slice (slBase (some a) l m esz) (h - l) (m - l))))
      | _ => False)
    | _ => False

def nthH : List HB → Nat → Option HB
  | [], _ => none
  | b :: _, 0 => some b
  | _ :: l, n + 1 => nthH l n
theorem nthH_eq : ∀ (l : List HB) (n : Nat), nthH l n = l[n]?
  | [], _ => by simp [nthH]
  | b :: _, 0 => by simp [nthH]
  | _ :: l, n + 1 => by simp [nthH, nthH_eq l n]

def Lf.def : Lf → Bool
  | .any => false
  | _ => true
def defL : List Lf → Bool
  | [] => true
  | l :: ls => match l.def with | true => defL ls | false => false
def AV.def : AV → Bool
  | .one l => l.def
  | .s ls => defL ls
  | .u _ => false
def Lf.val (ns : List Nat) : Lf → Value
  | .v x => x
  | .tt => .bool true
  | .ff => .bool false
  | .p t o => .pointer (some ⟨ns.getD t 0, o, none⟩)
  | .any => undef
def AV.val (ns : List Nat) : AV → Value
  | .one l => l.val ns
  | .s ls => .agg (ls.map (Lf.val ns)).toArray
  | .u _ => undef
theorem Lf.def_R {ns : List Nat} {l : Lf} (h : l.def = true) (y : Value) : l.R ns y ↔ y = l.val ns := by
  cases l <;> first | exact Iff.rfl | cases h
theorem defL_R {ns : List Nat} : ∀ {ls : List Lf}, defL ls = true → ∀ cs : List Value, LR ns ls cs ↔ cs = ls.map (Lf.val ns)
  | [], _, cs => by cases cs <;> simp [LR]
  | l :: ls, h, cs => by
    have h1 : l.def = true := by cases e : l.def <;> simp [defL, e] at h ⊢
    have h2 : defL ls = true := by simpa [defL, h1] using h
    cases cs with
    | nil => simp [LR]
    | cons c cs => simp only [LR, List.map_cons, List.cons.injEq]; rw [Lf.def_R h1, defL_R h2]
theorem AV.def_R {ns : List Nat} {a : AV} (h : a.def = true) (y : Value) : a.R ns y ↔ y = a.val ns := by
  cases a with
  | one l => exact Lf.def_R h y
  | s ls =>
    constructor
    · rintro ⟨cs, rfl, hl⟩; rw [(defL_R h cs).1 hl]; rfl
    · rintro rfl; exact ⟨_, rfl, (defL_R h _).2 rfl⟩
  | u es => cases h

def TK.agg : TK → Bool
  | .struct _ | .arr .. => true
  | _ => false

def loadK (T : Tr) (S : St) (t : TypeId) (x : AV) (k : AV → Prop) : Prop :=
  match T.look t with
  | none => False
  | some d => (match x with
    | .one (.p i o) => (match nthH S.hs i with
      | some (.k _ ls) => partK d.k.agg ls o d.size fun r => (match r.def with | true => k r | false => False)
      | _ => False)
    | .one (.v (.pointer (some a))) => (match d.k.agg with
      | true => ∃ cs : List Value, RdAt S a cs ∧ cs.length = d.size ∧ forceLs (cs.map .v) fun cs => k (.s cs)
      | false => ∃ v : Value, RdAt S a [v] ∧ forceF (.v v) fun l => k (.one l))
    | _ => False)

def lenK (T : Tr) (t : TypeId) (x : AV) (k : AV → Prop) : Prop :=
  match T.look t with
  | some ⟨_, _, .slice _ _⟩ => (match x with | .one (.v (.slice _ n _)) => k (.one (.v (.int .i64 (n : Int)))) | _ => False)
  | some ⟨_, _, .arr n _ _⟩ => k (.one (.v (.int .i64 (n : Int))))
  | some ⟨_, _, .str⟩ => (match x with | .one (.v (.string s)) => k (.one (.v (.int .i64 (s.size : Int)))) | _ => False)
  | _ => False

def capK (T : Tr) (t : TypeId) (x : AV) (k : AV → Prop) : Prop :=
  match T.look t with
  | some ⟨_, _, .slice _ _⟩ => (match x with | .one (.v (.slice _ _ n)) => k (.one (.v (.int .i64 (n : Int)))) | _ => False)
  | _ => False

def mmK (mx : Bool) (tm : List AV) : IntKind → Int → List Operand → (AV → Prop) → Prop
  | kd, x, [], k => k (.one (.v (.int kd x)))
  | kd, x, o :: os, k => opK tm o fun a => (match a with
    | .one (.v (.int _ y)) => mmK mx tm kd (match mx with | true => if y > x then y else x | false => if y < x then y else x) os k
    | _ => False)

def mm0K (mx : Bool) (tm : List AV) : List Operand → (AV → Prop) → Prop
  | [], _ => False
  | o :: os, k => opK tm o fun a => (match a with
    | .one (.v (.int kd x)) => mmK mx tm kd x os k
    | _ => False)

def convK (T : Tr) (src dst : TypeId) (x : AV) (k : AV → Prop) : Prop :=
  match T.look src, T.look dst, x with
  | some _, some ⟨_, _, .int kd⟩, .one (.v (.int _ n)) => k (.one (.v (.int kd (kd.wrap n))))
  | _, _, _ => False

/-- The quiet operations: what they yield. 'False': not one of these. -/
def evP (P : Program) (T : Tr) (S : St) (op : Op) (k : AV → Prop) : Prop :=
  match op with
  | .move x | .assign x => opK S.tm x fun a => force a k
  | .pick c a b => opK S.tm c fun cv => (match cv with
    | .one .tt => opK S.tm a fun a => force a k
    | .one .ff => opK S.tm b fun a => force a k
    | .one (.v (.bool c)) => (c = true → opK S.tm a fun a => force a k) ∧ (c = false → opK S.tm b fun a => force a k)
    | _ => False)
  | .nilCheck x => opK S.tm x fun a => (match a with
    | .one (.p t o) => k (.one (.p t o))
    | .one (.v (.pointer (some a))) => k (.one (.v (.pointer (some a))))
    | .one (.v (.func (.func f) fs cs)) => k (.one (.v (.func (.func f) fs cs)))
    | .one (.v (.func (.yield f) fs cs)) => k (.one (.v (.func (.yield f) fs cs)))
    | _ => False)
  | .binOp op t x y _ => opK S.tm x fun a => opK S.tm y fun b => binK P T S.ns op t a b k
  | .unOp op _ x => opK S.tm x fun a => unK op a k
  | .convert src dst x => opK S.tm x fun a => convK T src dst a k
  | .fieldAddr t x f => opK S.tm x fun a => fieldAddrK T t f a k
  | .field t x f => opK S.tm x fun a => fieldK T t f a k
  | .indexAddr t x i => opK S.tm x fun a => opK S.tm i fun b => indexAddrK T t a b k
  | .index t x i => opK S.tm x fun a => opK S.tm i fun b => indexK T t a b k
  | .extract x i => opK S.tm x fun a => extractK a i k
  | .build t ps => buildK T S.tm t ps.toList k
  | .slice t x lo hi mx => opK S.tm x fun a => opoK S.tm lo fun l => opoK S.tm hi fun h => opoK S.tm mx fun m => sliceK T S.ns t a l h m k
  | .makeFunc fn fs cs => argsK S.ns S.tm fs.toList fun fs => argsK S.ns S.tm cs.toList fun cs => k (.one (.v (.func fn fs.toArray cs.toArray)))
  | .load t x => opK S.tm x fun a => loadK T S t a k
  | .call c => (match c.callee, c.args.toList, c.argTypes.toList with
    | .builtin .len, [x], [t] => opK S.tm x fun a => lenK T t a k
    | .builtin .cap, [x], [t] => opK S.tm x fun a => capK T t a k
    | .builtin .max, xs, _ => mm0K true S.tm xs k
    | .builtin .min, xs, _ => mm0K false S.tm xs k
    | _, _, _ => False)
  | _ => False

end Go.Ev
