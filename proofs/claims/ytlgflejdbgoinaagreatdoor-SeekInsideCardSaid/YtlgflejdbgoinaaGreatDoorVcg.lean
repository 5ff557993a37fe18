/- A generator of verification conditions over the model's code: heap-level predicate transformers, proved sound once. No condition. -/
import Derived.Scope
import Derived.Orders
import Derived.OrdersHeld
import Derived.Calls
import Derived.Laws.Sem
import Derived.Tactics
set_option linter.unusedVariables false
set_option linter.unusedSimpArgs false
namespace Go.Vcg

abbrev Heap := Array Obj

/-- a string, by its bytes -/
def str (l : List UInt8) : Value := .string ⟨l.toArray⟩

structure Same (w w' : World) : Prop where
  os : w'.os = w.os
  tape : w'.tape = w.tape
  output : w'.output = w.output

theorem Same.refl (w : World) : Same w w := ⟨rfl, rfl, rfl⟩
theorem Same.trans {a b c : World} (h : Same a b) (k : Same b c) : Same a c :=
  ⟨k.os.trans h.os, k.tape.trans h.tape, k.output.trans h.output⟩

/-- what a call comes to, by heaps -/
def Post (w : World) (R : Value → Heap → Prop) (E : List PanicEntry → Heap → Prop) : Ending → World → Prop
  | .returned v, w' => Same w w' ∧ R v w'.heap
  | .panicked c, w' => Same w w' ∧ E c w'.heap
  | .outgrown, _ => False

def CallsH (P : Program) (f : FuncId) (args : Array Value) (h : Heap) (R : Value → Heap → Prop) (E : List PanicEntry → Heap → Prop) : Prop :=
  ∀ w : World, w.heap = h → Calls P f args w (Post w R E)

theorem CallsH.mono {P : Program} {f : FuncId} {args : Array Value} {h : Heap} {R R' : Value → Heap → Prop} {E E' : List PanicEntry → Heap → Prop}
    (H : CallsH P f args h R E) (hr : ∀ v h', R v h' → R' v h') (he : ∀ c h', E c h' → E' c h') : CallsH P f args h R' E' := by
  intro w hw
  refine (H w hw).mono ?_
  intro e w' q
  cases e with
  | returned v => exact ⟨q.1, hr _ _ q.2⟩
  | panicked c => exact ⟨q.1, he _ _ q.2⟩
  | outgrown => exact q

/-- a call yields something: what its post says is true somewhere -/
theorem CallsH.some {P : Program} {f : FuncId} {args : Array Value} {h : Heap} {R : Value → Heap → Prop} {E : List PanicEntry → Heap → Prop}
    (H : CallsH P f args h R E) (w : World) (hw : w.heap = h) : ∃ e w', Post w R E e w' :=
  let ⟨e, w', _, q, _⟩ := H w hw []
  ⟨e, w', q⟩

/-- an operation that reads the heap and leaves it alone -/
def Reads (P : Program) (s : Sem Value) (h : Heap) (k : Value → Prop) : Prop :=
  ∃ v, (∀ w : World, w.heap = h → s.run P w = .ok v w) ∧ k v

/-- the same, in every heap that meets S -/
def ReadsS (P : Program) (s : Sem Value) (S : Heap → Prop) (k : Value → Prop) : Prop :=
  ∃ v, (∀ w : World, S w.heap → s.run P w = .ok v w) ∧ k v

/-- what an operation that acts comes to -/
def uponH (P : Program) (w : World) (k : Value → Heap → Prop) (E : List PanicEntry → Heap → Prop) : Result Next → Prop
  | .ok (.value v) w' => Same w w' ∧ k v w'.heap
  | .ok .skip w' => Same w w' ∧ k undef w'.heap
  | .ok (.enter f args) w' => Same w w' ∧ CallsH P f args w'.heap k E
  | .halt (.panic v) w' => Same w w' ∧ E [{ v, recovered := false }] w'.heap
  | _ => False

def Runs (P : Program) (s : Sem Next) (h : Heap) (k : Value → Heap → Prop) (E : List PanicEntry → Heap → Prop) : Prop :=
  ∀ w : World, w.heap = h → uponH P w k E (s.run P w)

theorem Runs.mono {P : Program} {s : Sem Next} {h : Heap} {k k' : Value → Heap → Prop} {E E' : List PanicEntry → Heap → Prop}
    (H : Runs P s h k E) (hk : ∀ v h', k v h' → k' v h') (he : ∀ c h', E c h' → E' c h') : Runs P s h k' E' := by
  intro w hw
  have := H w hw
  revert this
  cases (s.run P w) with
  | ok n w' =>
    cases n <;> simp only [uponH] <;> first | exact id | exact fun ⟨a, b⟩ => ⟨a, hk _ _ b⟩ | exact fun ⟨a, b⟩ => ⟨a, b.mono hk he⟩
  | halt x w' => cases x <;> simp only [uponH] <;> first | exact id | exact fun ⟨a, b⟩ => ⟨a, he _ _ b⟩

/-- a case on a Bool -/
def bcase (b : Bool) (A B : Prop) : Prop := match b with | true => A | false => B

/-- a value that is a Bool -/
def boolV (v : Value) (k : Bool → Prop) : Prop := match v with | .bool b => k b | _ => False
theorem boolV_elim {v : Value} {k : Bool → Prop} (h : boolV v k) : ∃ b, v = .bool b ∧ k b := by
  cases v <;> first | exact ⟨_, rfl, h⟩ | exact h.elim
/-- what is known of a slot that was tested -/
def knowF (c : Operand) (b : Bool) (fr : List (Nat × Value)) : List (Nat × Value) := match c with | .tmp t => (t, .bool b) :: fr | _ => fr

theorem bcase_of {b : Bool} {A B : Prop} (ha : b = true → A) (hb : b = false → B) : bcase b A B := by
  cases b
  · exact hb rfl
  · exact ha rfl
theorem bcase_mono {b : Bool} {A B A' B' : Prop} (h : bcase b A B) (ha : A → A') (hb : B → B') : bcase b A' B' := by
  cases b
  · exact hb h
  · exact ha h

/-- ways that meet again: J says where -/
def Join (m : (List Value → Heap → Prop) → Prop) (k : List Value → Heap → Prop) : Prop :=
  ∃ J : List Value → Heap → Prop, m J ∧ ∀ vs h, J vs h → k vs h

theorem Join.intro {m : (List Value → Heap → Prop) → Prop} {k : List Value → Heap → Prop} (h : m k) : Join m k := ⟨k, h, fun _ _ h => h⟩

/-- for all lists of n values -/
def forallN : Nat → (List Value → Prop) → Prop
  | 0, p => p []
  | n + 1, p => ∀ x : Value, forallN n fun l => p (x :: l)

theorem forallN_elim : ∀ (n : Nat) (p : List Value → Prop), forallN n p → ∀ l : List Value, l.length = n → p l
  | 0, p, h, l, hl => by cases l <;> simp_all [forallN]
  | n + 1, p, h, l, hl => by
    cases l with
    | nil => simp at hl
    | cons x l => exact forallN_elim n (fun l => p (x :: l)) (h x) l (by simpa using hl)

/-! ### Frames -/
abbrev Fr := List (Nat × Value)

def look : Fr → Nat → Option Value
  | [], _ => none
  | (k, v) :: r, t => match Nat.beq k t with | true => some v | false => look r t

def ev (fr : Fr) : Operand → Option Value
  | .tmp t => look fr t
  | .const v => some v
  | .global g => some (.pointer (some ⟨g, 0, none⟩))
  | .func f => some (.func (.func f) #[] #[])

def evs (fr : Fr) : List Operand → Option (List Value)
  | [] => some []
  | x :: r => match ev fr x with
    | some v => match evs fr r with
      | some vs => some (v :: vs)
      | none => none
    | none => none

def evps (fr : Fr) : List (Nat × Operand) → Option (List (Nat × Value))
  | [] => some []
  | (i, x) :: r => match ev fr x with
    | some v => match evps fr r with
      | some vs => some ((i, v) :: vs)
      | none => none
    | none => none

def evo (fr : Fr) : Option Operand → Option (Option Value)
  | none => some none
  | some x => match ev fr x with
    | some v => some (some v)
    | none => none

def need {α : Type} (o : Option α) (k : α → Prop) : Prop := match o with | some v => k v | none => False

theorem need_elim {α : Type} {o : Option α} {k : α → Prop} (h : need o k) : ∃ v, o = some v ∧ k v := by
  cases o with
  | none => exact h.elim
  | some v => exact ⟨v, rfl, h⟩

def put (fr : Fr) (d : Option Nat) (v : Value) : Fr := match d with | some d => (d, v) :: fr | none => fr

structure Agrees (D : List Deferred) (n : Nat) (a : Act) (fr : Fr) : Prop where
  defers : a.defers = D
  size : a.tmps.size = n
  vals : ∀ t v, look fr t = some v → a.tmps[t]? = some v

variable {D : List Deferred}
theorem Agrees.eval {n : Nat} {a : Act} {fr : Fr} (h : Agrees D n a fr) {x : Operand} {v : Value} (hx : ev fr x = some v) : a.eval x = v := by
  cases x with
  | tmp t => simp only [ev] at hx; simp [Act.eval, Array.getD_eq_getD_getElem?, h.vals t v hx]
  | const u => simpa [ev, Act.eval] using hx
  | global g => simpa [ev, Act.eval] using hx
  | func f => simpa [ev, Act.eval] using hx

theorem mapArr {α β : Type} (f : α → β) (xs : Array α) : xs.map f = (xs.toList.map f).toArray := by cases xs; simp
theorem mapArr' {β : Type} (f : Operand → β) (xs : Array (Nat × Operand)) : (xs.map fun (i, x) => (i, f x)) = (xs.toList.map fun (i, x) => (i, f x)).toArray := by cases xs; simp

theorem Agrees.evals {n : Nat} {a : Act} {fr : Fr} (h : Agrees D n a fr) : ∀ {l : List Operand} {vs : List Value}, evs fr l = some vs → l.map a.eval = vs
  | [], vs, e => by simp only [evs, Option.some.injEq] at e; simpa using e
  | x :: r, vs, e => by
    simp only [evs] at e
    split at e
    · rename_i v hv
      split at e
      · rename_i us hu
        cases e
        simp [h.eval hv, h.evals hu]
      · cases e
    · cases e

theorem Agrees.evalps {n : Nat} {a : Act} {fr : Fr} (h : Agrees D n a fr) : ∀ {l : List (Nat × Operand)} {vs : List (Nat × Value)}, evps fr l = some vs →
    l.map (fun (i, x) => (i, a.eval x)) = vs
  | [], vs, e => by simp only [evps, Option.some.injEq] at e; simpa using e
  | (i, x) :: r, vs, e => by
    simp only [evps] at e
    split at e
    · rename_i v hv
      split at e
      · rename_i us hu
        cases e
        simpa [h.eval hv] using h.evalps hu
      · cases e
    · cases e

theorem Agrees.evalo {n : Nat} {a : Act} {fr : Fr} (h : Agrees D n a fr) {x : Option Operand} {v : Option Value} (e : evo fr x = some v) : x.map a.eval = v := by
  cases x with
  | none => simpa [evo] using e
  | some x =>
    simp only [evo] at e
    split at e
    · rename_i u hu; cases e; simp [h.eval hu]
    · cases e

theorem Agrees.put {n : Nat} {a : Act} {fr : Fr} (h : Agrees D n a fr) {d : Option Nat} {v : Value} (hd : ∀ t, d = some t → t < n) :
    Agrees D n (a.put d v) (put fr d v) := by
  cases d with
  | none => exact h
  | some d =>
    have hd := hd d rfl
    refine ⟨h.defers, by simp [Act.put, h.size], ?_⟩
    intro t u hu
    simp only [Vcg.put, look] at hu
    split at hu
    · rename_i hb
      have : d = t := Nat.eq_of_beq_eq_true hb
      subst this
      cases hu
      simp [Act.put, h.size, hd]
    · rename_i hb
      have hne : d ≠ t := fun e => by subst e; simp at hb
      simp only [Act.put]
      rw [Array.getElem?_setIfInBounds_ne hne]
      exact h.vals t u hu

theorem Agrees.forget {n : Nat} {a : Act} {fr fr' : Fr} (h : Agrees D n a fr) (hs : ∀ t v, look fr' t = some v → look fr t = some v) : Agrees D n a fr' :=
  ⟨h.defers, h.size, fun t v e => h.vals t v (hs t v e)⟩

/-! ### Memory -/
def hcell (h : Heap) (a : Addr) : Option Value :=
  match h[a.block]? with
  | some (.cells c _ _) => if a.spot.isSome then none else c[a.off]?
  | _ => none
def hfrozen (h : Heap) (a : Addr) : Bool :=
  match h[a.block]? with
  | some (.cells _ _ (lo, hi)) => lo ≤ a.off && a.off < hi
  | _ => false
def hset (h : Heap) (a : Addr) (v : Value) : Heap :=
  h.modify a.block fun
    | .cells c e fz => .cells (if a.spot.isSome then c else c.setIfInBounds a.off v) e fz
    | o => o
theorem cell_eq (w : World) (a : Addr) : w.cell? a = hcell w.heap a := rfl
theorem frozen_eq (w : World) (a : Addr) : w.frozen? a = hfrozen w.heap a := rfl
theorem setCell_eq (w : World) (a : Addr) (v : Value) : w.setCell a v = { w with heap := hset w.heap a v } := rfl

def hcells (h : Heap) (a : Addr) : Nat → Nat → Option (List Value)
  | _, 0 => some []
  | i, n + 1 => match hcell h (a.add i) with
    | some v => match hcells h a (i + 1) n with
      | some vs => some (v :: vs)
      | none => none
    | none => none

/-- is a type's value an aggregate, of how many cells? -/
def aggN (P : Program) (t : TypeId) : Option (Option Nat) :=
  match P.underlying t with
  | some (.struct _) | some (.array _ _) => match P.info? t with | some i => some (some i.size) | none => none
  | some _ => some none
  | none => none

def pLoad (P : Program) (t : TypeId) (av : Value) (h : Heap) (k : Value → Prop) : Prop :=
  match av with
  | .pointer (some a) => match aggN P t with
    | some none => ∃ v, hcell h a = some v ∧ k v
    | some (some n) => ∃ vs, hcells h a 0 n = some vs ∧ k (.agg vs.toArray)
    | none => False
  | _ => False

def pLoadS (P : Program) (t : TypeId) (av : Value) (S : Heap → Prop) (k : Value → Prop) : Prop :=
  match av with
  | .pointer (some a) => match aggN P t with
    | some none => ∃ v, (∀ h, S h → hcell h a = some v) ∧ k v
    | some (some n) => ∃ vs, (∀ h, S h → hcells h a 0 n = some vs) ∧ k (.agg vs.toArray)
    | none => False
  | _ => False

theorem run_loadCellsFrom {P : Program} {a : Addr} {w : World} : ∀ (n i : Nat) (acc : Array Value) (vs : List Value), hcells w.heap a i n = some vs →
    (loadCellsFrom a i n acc).run P w = .ok (acc ++ vs.toArray) w
  | 0, i, acc, vs, h => by simp only [hcells, Option.some.injEq] at h; subst h; simp [loadCellsFrom]
  | n + 1, i, acc, vs, h => by
    simp only [hcells] at h
    split at h
    · rename_i v hv
      split at h
      · rename_i us hu
        cases h
        simp only [loadCellsFrom, Sem.run_bind, run_load, cell_eq, hv, Result.andThen_ok]
        rw [run_loadCellsFrom n (i + 1) _ us hu]
        simp
      · cases h
    · cases h

theorem run_loadVar1 {P : Program} {t : TypeId} {a : Addr} {w : World} {v : Value} (ht : aggN P t = some none) (hv : hcell w.heap a = some v) : (loadVar t a).run P w = .ok v w := by
  unfold aggN at ht
  unfold loadVar isAgg
  simp only [Go.underlying, program, Sem.run_bind, Sem.run, Result.andThen_ok]
  split at ht
  · split at ht <;> cases ht
  · split at ht <;> cases ht
  · rename_i d hn1 hn2 hd
    rw [hd]
    cases d <;> first | (exact absurd rfl (hn1 _)) | (exact absurd rfl (hn2 _ _)) | simp [run_load, cell_eq, hv]
  · cases ht

theorem run_loadVarN {P : Program} {t : TypeId} {a : Addr} {w : World} {n : Nat} {vs : List Value} (ht : aggN P t = some (some n)) (hv : hcells w.heap a 0 n = some vs) :
    (loadVar t a).run P w = .ok (.agg vs.toArray) w := by
  unfold aggN at ht
  unfold loadVar isAgg
  simp only [Go.underlying, program, Sem.run_bind, Sem.run, Result.andThen_ok]
  have fin : ∀ i, P.info? t = some i → i.size = n → ((do let x ← loadCells a (← sizeOf t); pure (Value.agg x) : Sem Value)).run P w = .ok (.agg vs.toArray) w := by
    intro i hi hs
    simp only [sizeOf, typeInfo, program, Sem.run_bind, Sem.run, Result.andThen_ok, hi, Sem.run_pure, loadCells, hs]
    rw [run_loadCellsFrom n 0 #[] vs hv]
    simp
  split at ht
  · rename_i d hd
    split at ht
    · rename_i i hi
      simp only [Option.some.injEq] at ht
      rw [hd]
      simpa using fin i hi ht
    · cases ht
  · rename_i d e hd
    split at ht
    · rename_i i hi
      simp only [Option.some.injEq] at ht
      rw [hd]
      simpa using fin i hi ht
    · cases ht
  · cases ht
  · cases ht

theorem pLoad_sound {P : Program} {t : TypeId} {av : Value} {w : World} {k : Value → Prop} (h : pLoad P t av w.heap k) :
    ∃ v, (Instr.loadAt t av).run P w = .ok v w ∧ k v := by
  unfold pLoad at h
  split at h
  · rename_i a
    split at h
    · rename_i ht
      obtain ⟨v, hv, hk⟩ := h
      exact ⟨v, by simp only [Instr.loadAt, Instr.sureAddr, Sem.run_bind, Sem.run_pure, Result.andThen_ok]; exact run_loadVar1 ht hv, hk⟩
    · rename_i n ht
      obtain ⟨vs, hv, hk⟩ := h
      exact ⟨_, by simp only [Instr.loadAt, Instr.sureAddr, Sem.run_bind, Sem.run_pure, Result.andThen_ok]; exact run_loadVarN ht hv, hk⟩
    · exact h.elim
  · exact h.elim

theorem pLoadS_sound {P : Program} {t : TypeId} {av : Value} {S : Heap → Prop} {k : Value → Prop} (h : pLoadS P t av S k) :
    ∃ v, (∀ w : World, S w.heap → (Instr.loadAt t av).run P w = .ok v w) ∧ k v := by
  unfold pLoadS at h
  split at h
  · rename_i a
    split at h
    · rename_i ht
      obtain ⟨v, hv, hk⟩ := h
      exact ⟨v, fun w hw => by simp only [Instr.loadAt, Instr.sureAddr, Sem.run_bind, Sem.run_pure, Result.andThen_ok]; exact run_loadVar1 ht (hv _ hw), hk⟩
    · rename_i n ht
      obtain ⟨vs, hv, hk⟩ := h
      exact ⟨_, fun w hw => by simp only [Instr.loadAt, Instr.sureAddr, Sem.run_bind, Sem.run_pure, Result.andThen_ok]; exact run_loadVarN ht (hv _ hw), hk⟩
    · exact h.elim
  · exact h.elim

/-- may a value lie in one cell? -/
def flat (v : Value) : Bool := match v with | .agg _ | .tuple _ => false | _ => true
def hput1 (h : Heap) (a : Addr) (v : Value) : Option Heap :=
  match hcell h a with
  | some _ => match flat v && !hfrozen h a with
    | true => some (hset h a v)
    | false => none
  | none => none
def hputN (h : Heap) (a : Addr) : Nat → List Value → Option Heap
  | _, [] => some h
  | i, v :: r => match hput1 h (a.add i) v with
    | some h' => hputN h' a (i + 1) r
    | none => none
def sizeT (P : Program) (t : TypeId) : Option Nat := match P.info? t with | some i => some i.size | none => none

def pStore (P : Program) (t : TypeId) (av x : Value) (h : Heap) (k : Heap → Prop) : Prop :=
  match av with
  | .pointer (some a) => sizeT P t = some x.cells.size ∧ need (hputN h a 0 x.cells.toList) k
  | _ => False

theorem run_storeCells {P : Program} {a : Addr} : ∀ (vs : List Value) (i : Nat) (w : World) (h' : Heap), hputN w.heap a i vs = some h' →
    (storeCells a vs i).run P w = .ok () { w with heap := h' }
  | [], i, w, h', h => by simp only [hputN, Option.some.injEq] at h; subst h; simp [storeCells]
  | v :: r, i, w, h', h => by
    simp only [hputN] at h
    split at h
    · rename_i h1 he
      unfold hput1 at he
      split at he
      · rename_i old hc
        split at he
        · rename_i hf
          cases he
          simp only [Bool.and_eq_true, Bool.not_eq_true'] at hf
          obtain ⟨hf1, hf2⟩ := hf
          simp only [storeCells, Sem.run_bind]
          have e1 : (store (a.add i) v : Sem Unit).run P w = .ok () (w.setCell (a.add i) v) := by
            unfold store
            cases v <;> simp [flat] at hf1 <;> simp only [Sem.run, cell_eq, hc, frozen_eq, hf2, Bool.false_eq_true, if_false]
          rw [e1, Result.andThen_ok, setCell_eq]
          exact run_storeCells r (i + 1) _ h' h
        · cases he
      · cases he
    · cases h

theorem pStore_sound {P : Program} {t : TypeId} {av x : Value} {w : World} {k : Heap → Prop} (h : pStore P t av x w.heap k) :
    ∃ h', (Instr.storeAt t av x).run P w = .ok () { w with heap := h' } ∧ k h' := by
  unfold pStore at h
  split at h
  · rename_i a
    obtain ⟨hs, hn⟩ := h
    obtain ⟨h', h1, h2⟩ := need_elim hn
    refine ⟨h', ?_, h2⟩
    unfold sizeT at hs
    split at hs
    · rename_i i hi
      simp only [Option.some.injEq] at hs
      simp only [Instr.storeAt, Instr.sureAddr, storeVar, sizeOf, typeInfo, program, Sem.run_bind, Sem.run_pure, Sem.run, Result.andThen_ok, hi]
      simp only [hs, ne_eq, not_true_eq_false, if_false]
      exact run_storeCells _ 0 w h' h1
    · cases hs
  · exact h.elim

/-- a new variable -/
def zeroT (P : Program) (t : TypeId) : Option Value := match P.info? t with | some i => i.zero | none => none
def pNew (t : TypeId) (x : Value) (h : Heap) (k : Value → Heap → Prop) : Prop := k (.pointer (some ⟨h.size, 0, none⟩)) (h.push (.cells x.cells t))
def pAlloc (P : Program) (t : TypeId) (h : Heap) (k : Value → Heap → Prop) : Prop := need (zeroT P t) fun z => pNew t z h k

theorem run_newVar {P : Program} {t : TypeId} {x : Value} {w : World} : (newVar t x).run P w = .ok ⟨w.heap.size, 0, none⟩ { w with heap := w.heap.push (.cells x.cells t) } := by
  simp [newVar, newRow, newObj, Sem.run]

/-! ### Operations -/
def pickS (c a b : Value) : Sem Value := do pure (if ← asBool c then a else b)
def isC : Operand → Bool
  | .const _ => true
  | _ => false
/-- '==' and its kin, with the model's guard at two nils -/
def guardS (op : BinOp) (t : TypeId) (c : Bool) (a b : Value) : Sem Unit := do
  if !(op matches .eql | .neq) then return
  match a, b with
  | .nilIface, .nilIface =>
    if c then return
    if ← Op.eqGuardIn Op.maxDepth t a b then unsupported (.noEntry "binop/eql: two nil values of an interface type with methods, neither of them the literal nil")
  | .agg _, .agg _ =>
    if !(← program).eqGuardType (← program).depth t then return
    if ← Op.eqGuardIn Op.maxDepth t a b then unsupported (.noEntry "binop/eql: two nil values of an interface type with methods, in a part of a struct or an array")
  | _, _ => pure ()
def binS (op : BinOp) (t : TypeId) (c : Bool) (a b : Value) : Sem Value := do guardS op t c a b; binOp op t a b
def nilS (x : Value) : Sem Value :=
  match x with
  | .pointer none => runtimePanic .nilDeref
  | .pointer (some a) => pure (.pointer (some a))
  | _ => unsupported (.noEntry "")
def builtinS (b : Builtin) (ts : Array TypeId) (t : TypeId) (args : Array Value) : Sem Value :=
  match b with
  | .len => Builtin.len_ ts t args
  | .cap => Builtin.cap_ ts t args
  | .min => Builtin.min_ ts t args
  | .max => Builtin.max_ ts t args
  | .unsafeSliceData => Builtin.unsafeSliceData_ ts t args
  | .unsafeStringData => Builtin.unsafeStringData_ ts t args
  | _ => unsupported (.noEntry "")

def isSliceT (P : Program) (t : TypeId) : Bool := match P.underlying t with | some (.slice _) => true | _ => false

/-- the operations that read -/
def readS (P : Program) (fr : Fr) (o : Oper) : Option (Sem Value) :=
  match o.op with
  | .nilCheck x => match ev fr x with | some x => some (nilS x) | none => none
  | .binOp op t x y _ => match ev fr x, ev fr y with | some a, some b => some (binS op t (isC x || isC y) a b) | _, _ => none
  | .unOp op _ x => match ev fr x with | some x => some (Op.unary op x) | none => none
  | .convert s d x => match isSliceT P d with
    | true => none
    | false => match ev fr x with | some x => some (convert s d x) | none => none
  | .makeInterface t x => match ev fr x with | some x => some (Instr.makeInterface t x) | none => none
  | .makeFunc fn first captured => match evs fr first.toList, evs fr captured.toList with
    | some f, some c => some (Instr.makeFunc fn f.toArray c.toArray)
    | _, _ => none
  | .slice t x lo hi mx => match ev fr x, evo fr lo, evo fr hi, evo fr mx with
    | some x, some lo, some hi, some mx => some (Instr.sliceAt t x lo hi mx)
    | _, _, _, _ => none
  | .fieldAddr t x f => match ev fr x with | some x => some (Instr.fieldAt t x f) | none => none
  | .field t x f => match ev fr x with | some x => some (Instr.field t x f) | none => none
  | .indexAddr t x i => match ev fr x, ev fr i with | some x, some i => some (Instr.indexAt t x i) | _, _ => none
  | .index t x i => match ev fr x, ev fr i with | some x, some i => some (Instr.index t x i) | _, _ => none
  | .typeAssert x t a ok => match ev fr x with | some x => some (Instr.typeAssert x t a ok) | none => none
  | .extract x i => match ev fr x with | some x => some (Instr.extract x i) | none => none
  | .build t ps => match evps fr ps.toList with | some ps => some (Instr.build t ps.toArray) | none => none
  | .call c => match c.callee with
    | .builtin b => match b with
      | .len | .cap | .min | .max | .unsafeSliceData | .unsafeStringData => match evs fr c.args.toList with
        | some vs => some (builtinS b c.argTypes o.type vs.toArray)
        | none => none
      | _ => none
    | _ => none
  | _ => none

def vS (s : Sem Value) : Sem Next := do pure (.value (← s))
def uS (s : Sem Unit) : Sem Next := do s; pure .skip

theorem resolve_builtin {ρ : Operand → Value} {c : Call} {b : Builtin} (t : TypeId) (h : c.callee = .builtin b) :
    resolve ρ c t = pure { target := .builtin b c.argTypes t (c.args.map isC), args := c.args.map ρ } := by
  unfold resolve; rw [h]
  exact congrArg (fun l => (pure { target := .builtin b c.argTypes t l, args := c.args.map ρ } : Sem Deferred)) (congrArg (fun f => c.args.map f) (by funext x; cases x <;> rfl))

theorem guardS_eq (op : BinOp) (t : TypeId) (x y : Operand) (a b : Value) : eqGuard op t x y a b = guardS op t (isC x || isC y) a b := by
  have h : ((x matches .const _) || (y matches .const _)) = (isC x || isC y) := by cases x <;> cases y <;> rfl
  unfold eqGuard guardS
  cases op <;> first | rfl | (cases a <;> cases b <;> first | rfl | (simp only [h]))

theorem readS_sound {P : Program} {n : Nat} {a : Act} {fr : Fr} {o : Oper} {s : Sem Value} (h : Agrees D n a fr) (hs : readS P fr o = some s) :
    ∀ w v, s.run P w = .ok v w → (execOp a.eval o).run P w = .ok (.value v) w := by
  have key : ∀ s' : Sem Value, execOp a.eval o = vS s' → (∀ w v, s'.run P w = .ok v w → (execOp a.eval o).run P w = .ok (.value v) w) := by
    intro s' e w v hr
    rw [e]; simp [vS, hr]
  obtain ⟨dst, op, type, pos, after, guard⟩ := o
  simp only [readS] at hs
  cases op <;> simp only at hs
  case nilCheck x =>
    split at hs
    · rename_i u hx; cases hs
      intro w v hr
      simp only [execOp, h.eval hx]
      cases u <;> simp only [nilS] at hr <;> first | (simp [unsupported] at hr; done) | skip
      rename_i p
      cases p with
      | none => simp only [] at hr ⊢; simp only [runtimePanic, program, goPanic, Sem.run_bind] at hr; simp [Sem.run] at hr
      | some p => simp at hr; simp [hr]
    · cases hs
  case binOp op t x y u =>
    split at hs
    · rename_i hx hy; cases hs; exact key _ (by simp only [execOp, h.eval hx, h.eval hy, vS, binS, guardS_eq])
    · cases hs
  case unOp op t x =>
    split at hs
    · rename_i hx; cases hs; exact key _ (by simp only [execOp, h.eval hx, vS])
    · cases hs
  case convert s d x =>
    split at hs
    · cases hs
    · split at hs
      · rename_i hx; cases hs; exact key _ (by simp only [execOp, h.eval hx, vS])
      · cases hs
  case makeInterface t x =>
    split at hs
    · rename_i hx; cases hs; exact key _ (by simp only [execOp, h.eval hx, vS])
    · cases hs
  case makeFunc fn first captured =>
    split at hs
    · rename_i f c hf hc; cases hs
      refine key _ ?_
      have e1 : first.map a.eval = f.toArray := by rw [← h.evals hf]; exact mapArr _ _
      have e2 : captured.map a.eval = c.toArray := by rw [← h.evals hc]; exact mapArr _ _
      simp only [execOp, vS, e1, e2]
    · cases hs
  case slice t x lo hi mx =>
    split at hs
    · rename_i hx hlo hhi hmx; cases hs
      exact key _ (by simp only [execOp, h.eval hx, h.evalo hlo, h.evalo hhi, h.evalo hmx, vS])
    · cases hs
  case fieldAddr t x f =>
    split at hs
    · rename_i hx; cases hs; exact key _ (by simp only [execOp, h.eval hx, vS])
    · cases hs
  case field t x f =>
    split at hs
    · rename_i hx; cases hs; exact key _ (by simp only [execOp, h.eval hx, vS])
    · cases hs
  case indexAddr t x i =>
    split at hs
    · rename_i hx hi; cases hs; exact key _ (by simp only [execOp, h.eval hx, h.eval hi, vS])
    · cases hs
  case index t x i =>
    split at hs
    · rename_i hx hi; cases hs; exact key _ (by simp only [execOp, h.eval hx, h.eval hi, vS])
    · cases hs
  case typeAssert x t u ok =>
    split at hs
    · rename_i hx; cases hs; exact key _ (by simp only [execOp, h.eval hx, vS])
    · cases hs
  case extract x i =>
    split at hs
    · rename_i hx; cases hs; exact key _ (by simp only [execOp, h.eval hx, vS])
    · cases hs
  case build t ps =>
    split at hs
    · rename_i vs hp; cases hs
      refine key _ ?_
      have e1 : (ps.map fun (i, x) => (i, a.eval x)) = vs.toArray := by rw [← h.evalps hp]; exact mapArr' _ _
      simp only [execOp, vS, e1]
    · cases hs
  case call c =>
    split at hs
    · rename_i b hb
      have body : ∀ vs, evs fr c.args.toList = some vs → ∀ s' : Sem Value, builtin b c.argTypes type (c.args.map isC) vs.toArray = vS s' →
          (∀ w v, s'.run P w = .ok v w → (execOp a.eval ⟨dst, .call c, type, pos, after, guard⟩).run P w = .ok (.value v) w) := by
        intro vs hv s' e w v hr
        have e1 : c.args.map a.eval = vs.toArray := by rw [← h.evals hv]; exact mapArr _ _
        simp only [execOp, resolve_builtin _ hb, e1, Sem.run_bind, Sem.run_pure, Result.andThen_ok, invoke, e]
        simp [vS, hr]
      split at hs <;> first | (cases hs; done) | skip
      all_goals
        split at hs
        · rename_i vs hv; cases hs; exact body vs hv _ rfl
        · cases hs
    · cases hs
  all_goals cases hs

/-- does function f have a body? (no wrapper of the model's stands in its way) -/
def hasBody (P : Program) (f : FuncId) : Bool := match P.funcs[f]? with
  | some fn => fn.body.isSome && !(fn.name == "runtime.NumGoroutine")
  | none => false

/-- the operations that act -/
def actS (fr : Fr) (o : Oper) : Option (Sem Next) :=
  match o.op with
  | .alloc e => some (vS (Instr.alloc e true (.tuple #[])))
  | .box e x => match ev fr x with | some x => some (vS (Instr.box e x)) | none => none
  | .buildSlice t n ps => match evps fr ps.toList with | some ps => some (vS (Instr.buildSlice t n ps.toArray)) | none => none
  | .store t a x => match ev fr a, ev fr x with | some a, some x => some (uS (Instr.storeAt t a x)) | _, _ => none
  | .convert s d x => match ev fr x with | some x => some (vS (convert s d x)) | none => none
  | .makeMap t r => match evo fr r with | some r => some (vS (Instr.makeMap t r)) | none => none
  | .makeSlice t l c => match ev fr l, ev fr c with | some l, some c => some (vS (Instr.makeSlice t l c)) | _, _ => none
  | .mapUpdate t m k x | .insert t m k x => match ev fr m, ev fr k, ev fr x with | some m, some k, some x => some (uS (Instr.mapUpdate t m k x)) | _, _, _ => none
  | .lookup t x i ok => match ev fr x, ev fr i with | some x, some i => some (vS (Instr.lookup t x i ok)) | _, _ => none
  | .range t x => match ev fr x with | some x => some (vS (Instr.range t x)) | none => none
  | .next it s => match ev fr it with | some it => some (vS (Instr.next it s o.type)) | none => none
  | .panic x => match ev fr x with | some x => some (vS (Instr.panic x)) | none => none
  | .call c => match evs fr c.args.toList with
    | some vs => match c.callee with
      | .value f => match ev fr f with
        | some f => some (do let d ← Deferred.ofValue f vs.toArray; invoke d.target d.args)
        | none => none
      | .invoke r m => match ev fr r with
        | some r => some (invoke (.fn (.method m) #[]) (#[r] ++ vs.toArray))
        | none => none
      | .builtin b => some (builtin b c.argTypes o.type (c.args.map isC) vs.toArray)
    | none => none
  | _ => none

theorem actS_sound {P : Program} {n : Nat} {a : Act} {fr : Fr} {o : Oper} {s : Sem Next} (h : Agrees D n a fr) (hs : actS fr o = some s) :
    ∀ w, (execOp a.eval o).run P w = s.run P w := by
  obtain ⟨dst, op, type, pos, after, guard⟩ := o
  simp only [actS] at hs
  intro w
  cases op <;> simp only at hs
  case alloc e => cases hs; rfl
  case box e x =>
    split at hs
    · rename_i hx; cases hs; simp only [execOp, h.eval hx, vS]
    · cases hs
  case buildSlice t k ps =>
    split at hs
    · rename_i vs hp; cases hs
      have e1 : (ps.map fun (i, x) => (i, a.eval x)) = vs.toArray := by rw [← h.evalps hp]; exact mapArr' _ _
      simp only [execOp, vS, e1]
    · cases hs
  case store t x y =>
    split at hs
    · rename_i hx hy; cases hs; simp only [execOp, h.eval hx, h.eval hy, uS]
    · cases hs
  case convert s d x =>
    split at hs
    · rename_i hx; cases hs; simp only [execOp, h.eval hx, vS]
    · cases hs
  case makeMap t r =>
    split at hs
    · rename_i hx; cases hs; simp only [execOp, h.evalo hx, vS]
    · cases hs
  case makeSlice t l c =>
    split at hs
    · rename_i hx hy; cases hs; simp only [execOp, h.eval hx, h.eval hy, vS]
    · cases hs
  case insert t m k x =>
    split at hs
    · rename_i hm hk hx; cases hs; simp only [execOp, h.eval hm, h.eval hk, h.eval hx, uS]
    · cases hs
  case mapUpdate t m k x =>
    split at hs
    · rename_i hm hk hx; cases hs; simp only [execOp, h.eval hm, h.eval hk, h.eval hx, uS]
    · cases hs
  case lookup t x i ok =>
    split at hs
    · rename_i hx hi; cases hs; simp only [execOp, h.eval hx, h.eval hi, vS]
    · cases hs
  case range t x =>
    split at hs
    · rename_i hx; cases hs; simp only [execOp, h.eval hx, vS]
    · cases hs
  case next it s =>
    split at hs
    · rename_i hx; cases hs; simp only [execOp, h.eval hx, vS]
    · cases hs
  case panic x =>
    split at hs
    · rename_i hx; cases hs; simp only [execOp, h.eval hx, vS]
    · cases hs
  case call c =>
    split at hs
    · rename_i vs hv
      have e1 : c.args.map a.eval = vs.toArray := by rw [← h.evals hv]; exact mapArr _ _
      split at hs
      · rename_i f hf
        split at hs
        · rename_i fv hfv; cases hs; simp only [execOp, resolve, hf, e1, h.eval hfv]
        · cases hs
      · rename_i r m hf
        split at hs
        · rename_i rv hrv; cases hs
          simp only [execOp, resolve, hf, e1, h.eval hrv, Sem.run_bind, Sem.run_pure, Result.andThen_ok]
        · cases hs
      · rename_i b hf
        cases hs
        simp only [execOp, resolve_builtin _ hf, e1, Sem.run_bind, Sem.run_pure, Result.andThen_ok, invoke]
    · cases hs
  all_goals cases hs

/-- a call of a function that has a body -/
def calleeF (o : Oper) : Option (FuncId × List Operand) :=
  match o.op with
  | .call c => match c.callee with
    | .value (.func f) => some (f, c.args.toList)
    | _ => none
  | _ => none

/-- one operation that is wanted -/
def vcOp (P : Program) (E : List PanicEntry → Heap → Prop) (fr : Fr) (o : Oper) (h : Heap) (k : Value → Heap → Prop) : Prop :=
  match o.op with
  | .move x | .assign x => need (ev fr x) fun v => k v h
  | .pick c a b => need (ev fr c) fun c => need (ev fr a) fun a => need (ev fr b) fun b => boolV c fun x => bcase x (k a h) (k b h)
  | .load t a => need (ev fr a) fun a => pLoad P t a h fun v => k v h
  | .store t a x => need (ev fr a) fun a => need (ev fr x) fun x => pStore P t a x h fun h' => k undef h'
  | .alloc t => pAlloc P t h k
  | .box t x => need (ev fr x) fun x => pNew t x h k
  | _ => match calleeF o with
    | some (f, args) => match hasBody P f with
      | true => need (evs fr args) fun vs => CallsH P f vs.toArray h k E
      | false => need (actS fr o) fun s => Runs P s h k E
    | none => match readS P fr o with
      | some s => Reads P s h fun v => k v h
      | none => need (actS fr o) fun s => Runs P s h k E

theorem hasBody_spec {P : Program} {f : FuncId} (hb : hasBody P f = true) (args : Array Value) (w : World) : (callFunc f args).run P w = .ok (.enter f args) w := by
  unfold hasBody at hb
  cases hf : P.funcs[f]? with
  | none => simp [hf] at hb
  | some fn =>
    simp only [hf, Bool.and_eq_true, Bool.not_eq_true'] at hb
    obtain ⟨hb1, hb2⟩ := hb
    have hn : fn.body.isNone = false := by cases h : fn.body <;> simp_all
    simp only [callFunc, program, Sem.run_bind, Sem.run, Result.andThen_ok, hf, hb2, hn, Bool.false_eq_true, if_false, Sem.run_pure]

theorem upon_of_uponH {P : Program} {o : Oper} {a : Act} {w : World} {next : Act → World → Prop} {Q : Exit → Act → World → Prop} {k : Value → Heap → Prop}
    {E : List PanicEntry → Heap → Prop} {r : Result Next}
    (hn : ∀ v w', Same w w' → k v w'.heap → next (a.put o.dst v) w') (hp : ∀ c w', Same w w' → E c w'.heap → Q (.panic c) a w')
    (h : uponH P w k E r) : o.upon P a next Q r := by
  cases r with
  | ok x w' =>
    cases x <;> simp only [uponH] at h <;> simp only [Oper.upon]
    case value v => exact hn _ _ h.1 h.2
    case skip => exact hn _ _ h.1 h.2
    case enter f args =>
      refine (h.2 w' rfl).mono ?_
      intro e w2 q
      cases e with
      | returned v => exact hn _ _ (h.1.trans q.1) q.2
      | panicked c => exact hp _ _ (h.1.trans q.1) q.2
      | outgrown => exact q.elim
  | halt x w' =>
    cases x <;> simp only [uponH] at h
    case panic v => exact hp _ _ h.1 h.2

theorem vcOp_sound {P : Program} {E : List PanicEntry → Heap → Prop} {n : Nat} {a : Act} {fr : Fr} {o : Oper} {w : World} {k : Value → Heap → Prop}
    {next : Act → World → Prop} {Q : Exit → Act → World → Prop} (ha : Agrees D n a fr)
    (hn : ∀ v w', Same w w' → k v w'.heap → next (a.put o.dst v) w') (hp : ∀ c w', Same w w' → E c w'.heap → Q (.panic c) a w')
    (h : vcOp P E fr o w.heap k) : o.wp P a w next Q := by
  have act : need (actS fr o) (fun s => Runs P s w.heap k E) → o.wp P a w next Q := by
    intro h
    obtain ⟨s, hs, hr⟩ := need_elim h
    unfold Oper.wp
    rw [actS_sound (P := P) ha hs w]
    exact upon_of_uponH hn hp (hr w rfl)
  unfold vcOp at h
  split at h
  · rename_i x hop
    obtain ⟨v, hv, hk⟩ := need_elim h
    unfold Oper.wp
    simp only [execOp, hop, ha.eval hv, Sem.run_pure, Oper.upon]
    exact hn _ _ (Same.refl _) hk
  · rename_i x hop
    obtain ⟨v, hv, hk⟩ := need_elim h
    unfold Oper.wp
    simp only [execOp, hop, ha.eval hv, Sem.run_pure, Oper.upon]
    exact hn _ _ (Same.refl _) hk
  · rename_i c x y hop
    obtain ⟨cv, hc, h⟩ := need_elim h
    obtain ⟨u, hu, h⟩ := need_elim h
    obtain ⟨v, hv, h⟩ := need_elim h
    obtain ⟨b, rfl, h⟩ := boolV_elim h
    unfold Oper.wp
    cases b <;> simp only [execOp, hop, ha.eval hc, ha.eval hu, ha.eval hv, asBool, Sem.run_bind, Sem.run_pure, Result.andThen_ok, Oper.upon, Bool.false_eq_true, if_false, if_true] <;> exact hn _ _ (Same.refl _) h
  · rename_i t x hop
    obtain ⟨v, hv, hk⟩ := need_elim h
    obtain ⟨u, hr, hk⟩ := pLoad_sound hk
    unfold Oper.wp
    simp only [execOp, hop, ha.eval hv, Sem.run_bind, hr, Result.andThen_ok, Sem.run_pure, Oper.upon]
    exact hn _ _ (Same.refl _) hk
  · rename_i t x y hop
    obtain ⟨v, hv, hk⟩ := need_elim h
    obtain ⟨u, hu, hk⟩ := need_elim hk
    obtain ⟨h', hr, hk⟩ := pStore_sound hk
    unfold Oper.wp
    simp only [execOp, hop, ha.eval hv, ha.eval hu, Sem.run_bind, hr, Result.andThen_ok, Sem.run_pure, Oper.upon]
    exact hn _ _ ⟨rfl, rfl, rfl⟩ hk
  · rename_i t hop
    obtain ⟨z, hz, hk⟩ := need_elim h
    unfold Oper.wp
    have e : (execOp a.eval o).run P w = .ok (.value (.pointer (some ⟨w.heap.size, 0, none⟩))) { w with heap := w.heap.push (.cells z.cells t) } := by
      unfold zeroT at hz
      split at hz
      · rename_i i hi
        simp only [execOp, hop, Instr.alloc, zeroValue, typeInfo, program, Sem.run_bind, Sem.run_pure, Sem.run, Result.andThen_ok, hi, hz, run_newVar]
      · cases hz
    rw [e]
    exact hn _ _ ⟨rfl, rfl, rfl⟩ hk
  · rename_i t x hop
    obtain ⟨v, hv, hk⟩ := need_elim h
    unfold Oper.wp
    have e : (execOp a.eval o).run P w = .ok (.value (.pointer (some ⟨w.heap.size, 0, none⟩))) { w with heap := w.heap.push (.cells v.cells t) } := by
      simp only [execOp, hop, Instr.box, ha.eval hv, Sem.run_bind, Sem.run_pure, Result.andThen_ok, run_newVar]
    rw [e]
    exact hn _ _ ⟨rfl, rfl, rfl⟩ hk
  · split at h
    · rename_i f args hc
      split at h
      · rename_i hb
        obtain ⟨vs, hv, hk⟩ := need_elim h
        unfold calleeF at hc
        split at hc
        · rename_i c hop
          split at hc
          · rename_i g hcal
            simp only [Option.some.injEq, Prod.mk.injEq] at hc
            obtain ⟨rfl, rfl⟩ := hc
            have e1 : c.args.map a.eval = vs.toArray := by rw [← ha.evals hv]; exact mapArr _ _
            unfold Oper.wp
            have e2 : (execOp a.eval o).run P w = .ok (.enter g vs.toArray) w := by
              simp only [execOp, hop, resolve, hcal, e1, Act.eval, Deferred.ofValue, Sem.run_bind, Sem.run_pure, Result.andThen_ok, invoke]
              simpa using hasBody_spec hb vs.toArray w
            rw [e2]
            refine upon_of_uponH (k := k) (E := E) hn hp ⟨Same.refl _, hk⟩
          · cases hc
        · cases hc
      · exact act h
    · split at h
      · rename_i s hs
        obtain ⟨v, hv, hk⟩ := h
        unfold Oper.wp
        rw [readS_sound ha hs w v (hv w rfl)]
        exact hn _ _ (Same.refl _) hk
      · exact act h

/-! ### Regions in the order of the text -/
/-- the guard of an operation: wanted, or not; in either case the frame knows the guard's value -/
def inL (i : Nat) : List Nat → Bool
  | [] => false
  | j :: r => match Nat.beq j i with | true => true | false => inL i r
def skip (d : Option Tmp) (sk : List Nat) : List Nat := match d with | some d => d :: sk | none => sk
/-- sk: what was passed over in this region -/
def vcG (ops : Array Oper) (sk : List Nat) (fr : Fr) (o : Oper) (A B : Fr → Prop) : Prop :=
  match o.guard with
  | none => A fr
  | some (j, want) => match (ops[j]?).bind (·.dst) with
    | none => B fr
    | some d => match inL d sk with
      | true => need (look fr d) fun v => v = undef ∧ B fr
      | false => need (look fr d) fun v => boolV v fun b => bcase b
          (match want with | true => A ((d, .bool true) :: fr) | false => B ((d, .bool true) :: fr))
          (match want with | true => B ((d, .bool false) :: fr) | false => A ((d, .bool false) :: fr))

def vcOps (P : Program) (E : List PanicEntry → Heap → Prop) (ops : Array Oper) : List Oper → List Nat → Fr → Heap → (Fr → Heap → Prop) → Prop
  | [], _, fr, h, K => K fr h
  | o :: rest, sk, fr, h, K => vcG ops sk fr o
      (fun fr => vcOp P E fr o h fun v h' => vcOps P E ops rest sk (put fr o.dst v) h' K)
      (fun fr => vcOps P E ops rest (skip o.dst sk) (put fr o.dst undef) h K)

def okOper (n : Nat) (o : Oper) : Bool := match o.dst with | some d => Nat.blt d n | none => true

theorem okOper_spec {n : Nat} {o : Oper} (h : okOper n o = true) : ∀ t, o.dst = some t → t < n := by
  intro t ht
  unfold okOper at h
  simp only [ht] at h
  exact Nat.lt_of_succ_le (Nat.le_of_ble_eq_true h)

theorem Agrees.know {n : Nat} {a : Act} {fr : Fr} (h : Agrees D n a fr) {d : Nat} {v : Value} (hl : look fr d = some v) : Agrees D n a ((d, v) :: fr) := by
  refine ⟨h.defers, h.size, fun t u hu => ?_⟩
  simp only [look] at hu
  split at hu
  · rename_i hb
    have : d = t := Nat.eq_of_beq_eq_true hb
    subst this; cases hu; exact h.vals _ _ hl
  · exact h.vals _ _ hu

theorem vcG_elim {n : Nat} {a : Act} {ops : Array Oper} {fr : Fr} {o : Oper} {A B : Fr → Prop} {sk : List Nat} (ha : Agrees D n a fr) (h : vcG ops sk fr o A B) :
    ∃ fr', Agrees D n a fr' ∧ ((Region.wanted o (yielded ops a.tmps) = true ∧ A fr') ∨ (Region.wanted o (yielded ops a.tmps) = false ∧ B fr')) := by
  unfold vcG at h
  split at h
  · rename_i hg
    exact ⟨fr, ha, .inl ⟨by simp [Region.wanted, hg], h⟩⟩
  · rename_i j want hg
    split at h
    · rename_i hd
      refine ⟨fr, ha, .inr ⟨?_, h⟩⟩
      simp only [Region.wanted, hg, yielded, hd]
      cases want <;> rfl
    · rename_i d hd
      split at h
      · obtain ⟨v, hl, rfl, h⟩ := need_elim h
        refine ⟨fr, ha, .inr ⟨?_, h⟩⟩
        have hy : yielded ops a.tmps j = none := by
          simp only [yielded, hd, Option.bind_some, ha.vals _ _ hl]
          rfl
        simp only [Region.wanted, hg, hy]
        cases want <;> rfl
      · obtain ⟨v, hl, h⟩ := need_elim h
        obtain ⟨b, rfl, h⟩ := boolV_elim h
        have ha' := ha.know hl
        have hy : yielded ops a.tmps j = some b := by
          simp only [yielded, hd, Option.bind_some, ha.vals _ _ hl]
        cases b <;> cases want <;> simp only [bcase] at h
        · exact ⟨_, ha', .inl ⟨by simp [Region.wanted, hg, hy], h⟩⟩
        · exact ⟨_, ha', .inr ⟨by simp [Region.wanted, hg, hy], h⟩⟩
        · exact ⟨_, ha', .inr ⟨by simp [Region.wanted, hg, hy], h⟩⟩
        · exact ⟨_, ha', .inl ⟨by simp [Region.wanted, hg, hy], h⟩⟩

/-- slots that a piece of code does not write are as they were -/
structure Keeps (ds : List Nat) (a a' : Act) : Prop where
  vals : ∀ t, t ∉ ds → a'.tmps[t]? = a.tmps[t]?

theorem Keeps.refl (ds : List Nat) (a : Act) : Keeps ds a a := ⟨fun _ _ => rfl⟩
theorem Keeps.trans {ds : List Nat} {a b c : Act} (h : Keeps ds a b) (k : Keeps ds b c) : Keeps ds a c := ⟨fun t ht => (k.vals t ht).trans (h.vals t ht)⟩
theorem Keeps.mono {ds ds' : List Nat} {a b : Act} (h : Keeps ds a b) (hs : ∀ t, t ∈ ds → t ∈ ds') : Keeps ds' a b := ⟨fun t ht => h.vals t fun hm => ht (hs t hm)⟩
theorem Keeps.put {ds : List Nat} {a b : Act} (h : Keeps ds a b) {d : Option Nat} (hd : ∀ t, d = some t → t ∈ ds) (v : Value) : Keeps ds a (b.put d v) := by
  cases d with
  | none => exact h
  | some d =>
    refine ⟨fun t ht => ?_⟩
    have hne : d ≠ t := fun e => ht (e ▸ hd d rfl)
    simp only [Act.put]
    rw [Array.getElem?_setIfInBounds_ne hne]
    exact h.vals t ht

theorem vcOps_sound {P : Program} {E : List PanicEntry → Heap → Prop} {ops : Array Oper} {n : Nat} {w₀ : World} {Q : Exit → Act → World → Prop} {K : Fr → Heap → Prop} {ds : List Nat} {a₀ : Act}
    (hK : ∀ a fr w, Agrees D n a fr → Same w₀ w → Keeps ds a₀ a → K fr w.heap → Q .normal a w) (hE : ∀ c a w, Same w₀ w → E c w.heap → a.defers = D → Q (.panic c) a w) :
    ∀ (l : List Oper) (k : Nat), (∀ j, l[j]? = ops[k + j]?) → l.all (okOper n) = true → (∀ o ∈ l, ∀ d, o.dst = some d → d ∈ ds) → ∀ (sk : List Nat) (a : Act) (fr : Fr) (w : World), Agrees D n a fr → Same w₀ w →
      Keeps ds a₀ a → vcOps P E ops l sk fr w.heap K → wpOps P ops Q (List.range' k l.length) a w := by
  intro l
  induction l with
  | nil => intro k _ _ _ sk a fr w ha hw hkp h; exact hK a fr w ha hw hkp h
  | cons o l ih =>
    intro k hk hok hds sk a fr w ha hw hkp h
    simp only [List.all_cons, Bool.and_eq_true] at hok
    have h0 : ops[k]? = some o := by simpa using (hk 0).symm
    have ih' := ih (k + 1) (fun j => by have := hk (j + 1); simpa [Nat.add_assoc, Nat.add_comm 1 j] using this) hok.2 (fun o ho => hds o (List.mem_cons_of_mem _ ho))
    have hdo := hds o (List.mem_cons_self ..)
    simp only [List.length_cons, List.range'_succ, wpOps, h0]
    simp only [vcOps] at h
    obtain ⟨fr', ha', hc⟩ := vcG_elim ha h
    rcases hc with ⟨hwant, hA⟩ | ⟨hwant, hB⟩
    · simp only [hwant, if_true]
      refine .inl (vcOp_sound ha' (fun v w' hs hk' => ?_) (fun c w' hs he => hE c a w' (hw.trans hs) he ha.defers) hA)
      exact ih' _ _ _ _ (ha'.put (okOper_spec hok.1)) (hw.trans hs) (hkp.put hdo v) hk'
    · simp only [hwant, Bool.false_eq_true, if_false]
      exact ih' _ _ _ _ (ha'.put (okOper_spec hok.1)) hw (hkp.put hdo _) hB

/-! ### Regions that draw their order -/
/-- what holds of the heap all through a region -/
inductive Stab where
  | same (h : Heap)
  | holds (S : Heap → Prop)
def Stab.P : Stab → Heap → Prop
  | .same h, h' => h' = h
  | .holds S, h' => S h'

def vcRd (P : Program) (fr : Fr) (o : Oper) (S : Stab) (k : Value → Prop) : Prop :=
  match o.op with
  | .move x | .assign x => need (ev fr x) k
  | .pick c a b => need (ev fr c) fun c => need (ev fr a) fun a => need (ev fr b) fun b => boolV c fun x => bcase x (k a) (k b)
  | .load t a => need (ev fr a) fun a => match S with
    | .same h => pLoad P t a h k
    | .holds S => pLoadS P t a S k
  | _ => need (readS P fr o) fun s => match S with
    | .same h => Reads P s h k
    | .holds S => ReadsS P s S k

def isNilL (l : List Nat) : Bool := match l with | [] => true | _ => false
def memN (i : Nat) : List Nat → Bool
  | [] => false
  | j :: r => match Nat.beq j i with | true => true | false => memN i r

/-- the order in which a region that draws is gone through: 'take': an operation that reads, taken first; 'act .. more': those that act, each of which may come up;
'cut': all that is left waits for all that has come up -/
inductive Ord where
  | done
  | take (i : Nat) (r : Ord)
  | act (i : Nat) (r more : Ord)
  | cut (m : Nat) (r : Ord)
  | stop

def Ord.idxs : Ord → List Nat
  | .act i _ m => i :: m.idxs
  | _ => []
def Ord.depth : Ord → Nat
  | .done | .stop => 0
  | .take _ r => r.depth + 1
  | .act _ r m => max (r.depth + 1) m.depth
  | .cut _ r => r.depth
def Ord.isStop : Ord → Bool
  | .stop => true
  | _ => false
/-- what has come up at the next cut -/
def Ord.seg : Ord → Array Bool → Array Bool
  | .take i r, l | .act i r _, l => r.seg (l.setIfInBounds i true)
  | _, l => l

def eqL : List Nat → List Nat → Bool
  | [], [] => true
  | a :: x, b :: y => match Nat.beq a b with | true => eqL x y | false => false
  | _, _ => false
def eqB : List Bool → List Bool → Bool
  | [], [] => true
  | true :: x, true :: y | false :: x, false :: y => eqB x y
  | _, _ => false
def outDep (L : Array Bool) (j : Nat) : List Edge → Bool
  | [] => false
  | e :: r => match Region.binds .any e && Nat.blt e.on j && !L.getD e.on false with
    | true => true
    | false => outDep L j r
def markE : List Edge → Nat → Nat
  | [], m => m
  | e :: r, m => markE r (match Region.binds .any e with | true => m ||| (1 <<< e.on) | false => m)
def closeDn (ops : Array Oper) : Nat → Nat → Nat
  | 0, m => m
  | i + 1, m => closeDn ops i (match m.testBit i with
    | true => match ops[i]? with
      | some o => markE o.after.toList m
      | none => m
    | false => m)
/-- whatever is not in L waits for all of L -/
def outOk (ops : Array Oper) (L : Array Bool) : Bool :=
  (List.range ops.size).all fun j => L.getD j false || match ops[j]? with
    | some o => outDep L j o.after.toList || (List.range L.size).all fun i => !L.getD i false || (closeDn ops ops.size (markE o.after.toList 0)).testBit i
    | none => true

def vcDraw (P : Program) (E : List PanicEntry → Heap → Prop) (ops : Array Oper) : Ord → Bool → Stab → Array Bool → Array Bool → List Nat → Fr → Heap → (Fr → Heap → Prop) → Prop
  | .done, _, _, L, listed, _, fr, h, K => match isNilL (Region.ready .any ops listed) && eqB listed.toList L.toList with | true => K fr h | false => False
  | .cut m r, _, _, L, listed, sk, fr, h, K => match eqB listed.toList L.toList && outOk ops (r.seg listed) with
    | false => False
    | true => match m with
      | 0 => vcDraw P E ops r true (.holds fun _ => True) (r.seg listed) listed sk fr h K
      | 1 => vcDraw P E ops r true (.same h) (r.seg listed) listed sk fr h K
      | _ => ∃ S : Heap → Prop, S h ∧ vcDraw P E ops r true (.holds S) (r.seg listed) listed sk fr h K
  | .take i r, _, S, L, listed, sk, fr, h, K =>
    match ops[i]? with
    | none => False
    | some o => match Region.free .any ops listed i && (Region.ready .any ops listed).contains i && L.getD i false with
      | true => vcG ops sk fr o
          (fun fr => vcRd P fr o S fun v => vcDraw P E ops r true S L (listed.setIfInBounds i true) sk (put fr o.dst v) h K)
          (fun fr => vcDraw P E ops r true S L (listed.setIfInBounds i true) (skip o.dst sk) (put fr o.dst undef) h K)
      | false => False
  | .act i r m, head, S, L, listed, sk, fr, h, K =>
    match (match head with | true => eqL (Ord.idxs (.act i r m)) (Region.ready .any ops listed) && !eqB listed.toList L.toList | false => true) with
    | false => False
    | true => match ops[i]? with
      | none => False
      | some o => vcG ops sk fr o
            (fun fr => vcOp P E fr o h fun v h' => S.P h' ∧ vcDraw P E ops r true S L (listed.setIfInBounds i true) sk (put fr o.dst v) h' K)
            (fun fr => vcDraw P E ops r true S L (listed.setIfInBounds i true) (skip o.dst sk) (put fr o.dst undef) h K) ∧
          (match m.isStop with | true => True | false => vcDraw P E ops m false S L listed sk fr h K)
  | .stop, _, _, _, _, _, _, _, _ => False

theorem vcRd_sound {P : Program} {n : Nat} {a : Act} {fr : Fr} {o : Oper} {S : Stab} {k : Value → Prop} (ha : Agrees D n a fr) (h : vcRd P fr o S k) :
    ∃ v, (∀ w : World, S.P w.heap → (execOp a.eval o).run P w = .ok (.value v) w) ∧ k v := by
  unfold vcRd at h
  split at h
  · rename_i x hop
    obtain ⟨v, hv, hk⟩ := need_elim h
    exact ⟨v, fun w _ => by simp only [execOp, hop, ha.eval hv, Sem.run_pure], hk⟩
  · rename_i x hop
    obtain ⟨v, hv, hk⟩ := need_elim h
    exact ⟨v, fun w _ => by simp only [execOp, hop, ha.eval hv, Sem.run_pure], hk⟩
  · rename_i c x y hop
    obtain ⟨cv, hc, h⟩ := need_elim h
    obtain ⟨u, hu, h⟩ := need_elim h
    obtain ⟨v, hv, h⟩ := need_elim h
    obtain ⟨b, rfl, h⟩ := boolV_elim h
    cases b
    · exact ⟨v, fun w _ => by simp [execOp, hop, ha.eval hc, ha.eval hu, ha.eval hv, asBool], h⟩
    · exact ⟨u, fun w _ => by simp [execOp, hop, ha.eval hc, ha.eval hu, ha.eval hv, asBool], h⟩
  · rename_i t x hop
    obtain ⟨v, hv, hk⟩ := need_elim h
    cases S with
    | same h₀ =>
      have hk' : pLoadS P t v (fun h' => h' = h₀) k := by
        have hk0 : pLoad P t v h₀ k := hk
        unfold pLoad at hk0
        unfold pLoadS
        split at hk0
        · rename_i b
          simp only at hk0 ⊢
          split at hk0
          · rename_i ht; obtain ⟨u, hu, hk0⟩ := hk0; exact ⟨u, fun h hh => by rw [hh]; exact hu, hk0⟩
          · rename_i m ht; obtain ⟨u, hu, hk0⟩ := hk0; exact ⟨u, fun h hh => by rw [hh]; exact hu, hk0⟩
          · exact hk0.elim
        · exact hk0.elim
      obtain ⟨u, hr, hk⟩ := pLoadS_sound hk'
      exact ⟨u, fun w hw => by simp only [execOp, hop, ha.eval hv, Sem.run_bind, hr w hw, Result.andThen_ok, Sem.run_pure], hk⟩
    | holds S =>
      obtain ⟨u, hr, hk⟩ := pLoadS_sound hk
      exact ⟨u, fun w hw => by simp only [execOp, hop, ha.eval hv, Sem.run_bind, hr w hw, Result.andThen_ok, Sem.run_pure], hk⟩
  · obtain ⟨s, hs, h⟩ := need_elim h
    cases S with
    | same h₀ => obtain ⟨v, hv, hk⟩ := h; exact ⟨v, fun w hw => readS_sound ha hs w v (hv w hw), hk⟩
    | holds S => obtain ⟨v, hv, hk⟩ := h; exact ⟨v, fun w hw => readS_sound ha hs w v (hv w hw), hk⟩

/-- panics do not hang on the frame -/
def Loose (D : List Deferred) (w₀ : World) (E : List PanicEntry → Heap → Prop) (Q : Exit → Act → World → Prop) : Exit → Act → World → Prop
  | .panic c, a, w => Same w₀ w ∧ E c w.heap ∧ a.defers = D
  | e, a, w => Q e a w

theorem Act.put_defers' (a : Act) (d : Option Tmp) (v : Value) : (a.put d v).defers = a.defers := by cases d <;> rfl

theorem eqL_eq : ∀ {a b : List Nat}, eqL a b = true → a = b
  | [], [], _ => rfl
  | x :: a, y :: b, h => by
    simp only [eqL] at h
    split at h
    · rename_i hb; rw [Nat.eq_of_beq_eq_true hb, eqL_eq h]
    · cases h
  | [], _ :: _, h => by cases h
  | _ :: _, [], h => by cases h
theorem eqB_eq : ∀ {a b : List Bool}, eqB a b = true → a = b := by
  intro a
  induction a with
  | nil => intro b h; cases b with
    | nil => rfl
    | cons y b => cases h
  | cons x a ih => intro b h; cases b with
    | nil => cases x <;> cases h
    | cons y b => cases x <;> cases y <;> first
      | (rw [ih (show eqB a b = true from h)])
      | cases h
theorem eqB_refl : ∀ (a : List Bool), eqB a a = true
  | [] => rfl
  | true :: a => eqB_refl a
  | false :: a => eqB_refl a
theorem eqB_arr {a b : Array Bool} (h : eqB a.toList b.toList = true) : a = b := Array.toList_inj.1 (eqB_eq h)

/-! A stretch of a region, up to the state L in which all that is left waits for all that has come up. -/
def wpSeg (P : Program) (ops : Array Oper) (Q : Exit → Act → World → Prop) (S : World → Prop) (L : Array Bool) (G : Nat → Act → World → Prop) : Nat → Array Bool → Act → World → Prop
  | 0, listed, a, w => listed = L ∧ G 0 a w
  | f + 1, listed, a, w => (listed = L → G (f + 1) a w) ∧
    (listed ≠ L → Region.ready .any ops listed ≠ [] ∧ ∀ i ∈ Region.ready .any ops listed, wpOp P ops Q i (fun a' w' => S w' ∧ wpSeg P ops Q S L G f (listed.setIfInBounds i true) a' w') a w)

theorem seg_here {P : Program} {ops : Array Oper} {Q : Exit → Act → World → Prop} {S : World → Prop} {L : Array Bool} {G : Nat → Act → World → Prop} (f : Nat) {a : Act} {w : World} (h : G f a w) :
    wpSeg P ops Q S L G f L a w := by
  cases f with
  | zero => exact ⟨rfl, h⟩
  | succ f => exact ⟨fun _ => h, fun hne => absurd rfl hne⟩

theorem seg_any {P : Program} {ops : Array Oper} {Q : Exit → Act → World → Prop} {S : World → Prop} {L : Array Bool} {G : Nat → Act → World → Prop}
    (hG : ∀ f a w, G f a w → wpAny P .any ops Q f L a w) : ∀ (f : Nat) (listed : Array Bool) (a : Act) (w : World), wpSeg P ops Q S L G f listed a w → wpAny P .any ops Q f listed a w
  | 0, listed, a, w, h => by obtain ⟨rfl, h⟩ := h; exact hG 0 a w h
  | f + 1, listed, a, w, h => by
    by_cases he : listed = L
    · subst he; exact hG _ a w (h.1 rfl)
    · obtain ⟨h1, h2⟩ := h.2 he
      exact ⟨fun h0 => absurd h0 h1, fun i hi => wpOp_mono (fun a' w' hh => seg_any hG f _ a' w' hh.2) (h2 i hi)⟩

/-- what has come up, had come up what it waits for -/
def Dc (ops : Array Oper) (listed : Array Bool) : Prop :=
  ∀ (j : Nat) (oj : Oper), ops[j]? = some oj → listed.getD j false = true → ∀ e ∈ oj.after, Region.binds .any e = true → listed.getD e.on false = true

theorem getD_set_mono {l : Array Bool} {i j : Nat} (h : l.getD j false = true) : (l.setIfInBounds i true).getD j false = true := by
  by_cases hij : i = j
  · subst hij
    have hlt : i < l.size := by
      rcases Nat.lt_or_ge i l.size with hh | hh
      · exact hh
      · simp [Array.getD_eq_getD_getElem?, Array.getElem?_eq_none hh] at h
    simp [Array.getD_eq_getD_getElem?, hlt]
  · rwa [getD_set_ne false hij]

theorem Dc.set {ops : Array Oper} {listed : Array Bool} (h : Dc ops listed) {i : Nat} (hi : i ∈ Region.ready .any ops listed) : Dc ops (listed.setIfInBounds i true) := by
  intro j oj hj hl e he hb
  obtain ⟨hiu, oi, hoi, hall⟩ := mem_ready.1 hi
  by_cases hij : i = j
  · subst hij
    rw [hoi] at hj
    cases hj
    exact getD_set_mono (hall e he hb)
  · rw [getD_set_ne false hij] at hl
    exact getD_set_mono (h j oj hj hl e he hb)

theorem markE_spec : ∀ {l : List Edge} {m i : Nat}, (markE l m).testBit i = true → m.testBit i = true ∨ ∃ e ∈ l, Region.binds .any e = true ∧ e.on = i
  | [], m, i, h => .inl h
  | e :: l, m, i, h => by
    rcases markE_spec (l := l) h with h1 | ⟨e', he', hb⟩
    · split at h1
      · rename_i hb
        rw [Nat.testBit_or, Bool.or_eq_true] at h1
        rcases h1 with h1 | h1
        · exact .inl h1
        · rw [Nat.shiftLeft_eq, Nat.one_mul, Nat.testBit_two_pow] at h1
          exact .inr ⟨e, List.mem_cons_self, hb, of_decide_eq_true h1⟩
      · exact .inl h1
    · exact .inr ⟨e', List.mem_cons_of_mem _ he', hb⟩

theorem closeDn_spec {ops : Array Oper} {listed : Array Bool} (dc : Dc ops listed) : ∀ {n m : Nat}, (∀ i, m.testBit i = true → listed.getD i false = true) →
    ∀ i, (closeDn ops n m).testBit i = true → listed.getD i false = true
  | 0, m, h, i, hi => h i hi
  | n + 1, m, h, i, hi => by
    refine closeDn_spec dc (n := n) (fun i hi => ?_) i hi
    split at hi
    · rename_i hb
      split at hi
      · rename_i o ho
        rcases markE_spec hi with h1 | ⟨e, he, hbe, rfl⟩
        · exact h i h1
        · exact dc n o ho (h n hb) e (by simpa using he) hbe
      · exact h i hi
    · exact h i hi

theorem outDep_spec {L : Array Bool} {j : Nat} : ∀ {l : List Edge}, outDep L j l = true → ∃ e ∈ l, Region.binds .any e = true ∧ e.on < j ∧ L.getD e.on false = false
  | [], h => by cases h
  | e :: l, h => by
    unfold outDep at h
    split at h
    · rename_i hc
      simp only [Bool.and_eq_true, Bool.not_eq_true'] at hc
      exact ⟨e, List.mem_cons_self, hc.1.1, (by have := hc.1.2; simpa [Nat.blt_eq] using this), hc.2⟩
    · obtain ⟨e', he', hr⟩ := outDep_spec h
      exact ⟨e', List.mem_cons_of_mem _ he', hr⟩

theorem outOk_spec {ops : Array Oper} {L listed : Array Bool} (h : outOk ops L = true) (dc : Dc ops listed) : ∀ (j : Nat) (oj : Oper), ops[j]? = some oj → L.getD j false = false →
    (∀ e ∈ oj.after, Region.binds .any e = true → listed.getD e.on false = true) → ∀ i, L.getD i false = true → listed.getD i false = true := by
  intro j
  induction j using Nat.strongRecOn with
  | _ j ih =>
    intro oj hj hL hall i hi
    have h0 := h
    unfold outOk at h0
    rw [List.all_eq_true] at h0
    have h1 := h0 j (List.mem_range.2 (Array.getElem?_eq_some_iff.1 hj).1)
    rw [hL, hj] at h1
    simp only [Bool.false_or, Bool.or_eq_true] at h1
    rcases h1 with h1 | h1
    · obtain ⟨e, he, hb, hlt, hLe⟩ := outDep_spec h1
      have hle := hall e (by simpa using he) hb
      cases hoe : ops[e.on]? with
      | none =>
        rw [Array.getElem?_eq_none_iff] at hoe
        have := (Array.getElem?_eq_some_iff.1 hj).1
        omega
      | some oe => exact ih e.on hlt oe hoe hLe (fun e' he' hb' => dc e.on oe hoe hle e' he' hb') i hi
    · rw [List.all_eq_true] at h1
      have hlt : i < L.size := by
        rcases Nat.lt_or_ge i L.size with hh | hh
        · exact hh
        · simp [Array.getD_eq_getD_getElem?, Array.getElem?_eq_none hh] at hi
      have h2 := h1 i (List.mem_range.2 hlt)
      rw [hi] at h2
      simp only [Bool.not_true, Bool.false_or] at h2
      refine closeDn_spec dc (fun k hk => ?_) i h2
      rcases markE_spec hk with h3 | ⟨e, he, hb, rfl⟩
      · simp at h3
      · exact hall e (by simpa using he) hb

theorem getD_ff {l : Array Bool} {i : Nat} (h : l.getD i true = false) : l.getD i false = false := by
  simp only [Array.getD_eq_getD_getElem?] at *
  cases hh : l[i]? with
  | none => rfl
  | some b => rw [hh] at h; simpa using h

theorem seg_first {P : Program} {ops : Array Oper} {Q : Exit → Act → World → Prop} {S : World → Prop} {L : Array Bool} {G : Nat → Act → World → Prop} {i : Nat} {oi : Oper} {v : Value}
    (hi : ops[i]? = some oi) (hsel : ∀ (j : Nat) (o : Oper) cs b, ops[j]? = some o → o.op ≠ .select cs b) (hQ : ∀ c a w, Q (.panic c) (a.put oi.dst v) w → Q (.panic c) a w)
    (hL : L.getD i false = true) (hout : outOk ops L = true) :
    ∀ (f : Nat) (listed : Array Bool) (a : Act) (w : World),
      (∀ j oj, ops[j]? = some oj → j ≠ i → listed.getD j true = false → (∀ e ∈ oj.after, Region.binds .any e = true → e.on ≠ i) → oi.apart ops oj = true) →
      Dc ops listed → i ∈ Region.ready .any ops listed → YieldsIf P ops S oi v a → S w →
      wpSeg P ops Q S L G f (listed.setIfInBounds i true) (a.put oi.dst v) w → wpSeg P ops Q S L G (f + 1) listed a w := by
  intro f
  induction f with
  | zero =>
    intro listed a w _ hdc hr hy hS H
    have hu := getD_ff (mem_ready.1 hr).1
    have hne : listed ≠ L := fun e => by rw [e, hL] at hu; cases hu
    refine ⟨fun e => absurd e hne, fun _ => ⟨(fun h0 => absurd hr (by rw [h0]; exact List.not_mem_nil)), fun j hj => ?_⟩⟩
    by_cases hji : j = i
    · subst hji; exact hy.wpOp hi hS ⟨hS, H⟩
    · obtain ⟨hjun, oj, hoj, hall⟩ := mem_ready.1 hj
      have hju := getD_ff hjun
      cases hLj : L.getD j false with
      | true =>
        have e1 := congrArg (fun l : Array Bool => l.getD j false) H.1
        simp only [getD_set_ne false (Ne.symm hji), hju, hLj] at e1
        cases e1
      | false =>
        have := outOk_spec hout hdc j oj hoj hLj hall i hL
        rw [hu] at this
        cases this
  | succ f ih =>
    intro listed a w hfree hdc hr hy hS H
    have hu := getD_ff (mem_ready.1 hr).1
    have hne : listed ≠ L := fun e => by rw [e, hL] at hu; cases hu
    refine ⟨fun e => absurd e hne, fun _ => ⟨(fun h0 => absurd hr (by rw [h0]; exact List.not_mem_nil)), fun j hj => ?_⟩⟩
    by_cases hji : j = i
    · subst hji; exact hy.wpOp hi hS ⟨hS, H⟩
    · obtain ⟨hjun, oj, hoj, hall⟩ := mem_ready.1 hj
      have hju := getD_ff hjun
      have hnot : ∀ e ∈ oj.after, Region.binds .any e = true → e.on ≠ i := fun e he hb hon => by
        have := hall e he hb
        rw [hon, hu] at this
        cases this
      have hLj : L.getD j false = true := by
        cases hLj : L.getD j false with
        | true => rfl
        | false =>
          have := outOk_spec hout hdc j oj hoj hLj hall i hL
          rw [hu] at this
          cases this
      have hne2 : listed.setIfInBounds i true ≠ L := fun e => by
        have e1 := congrArg (fun l : Array Bool => l.getD j false) e
        simp only [getD_set_ne false (Ne.symm hji), hju, hLj] at e1
        cases e1
      have h1 := (H.2 hne2).2 j (ready_mono hj hji)
      have h2 := wpOp_putIf hoj (hfree j oj hoj hji hjun hnot) (fun cs b => hsel i oi cs b hi) (fun cs b => hsel j oj cs b hoj) hQ hy h1
      refine wpOp_mono (fun a' w' h3 => ⟨h3.2.1, ih (listed.setIfInBounds j true) a' w' ?_ (hdc.set hj) (ready_mono hr (Ne.symm hji)) h3.1 h3.2.1 ?_⟩) h2
      · intro k ok hk hki hun hno
        refine hfree k ok hk hki ?_ hno
        by_cases hjk : j = k
        · subst hjk; exact hjun
        · rwa [getD_set_ne true hjk] at hun
      · rw [Array.setIfInBounds_comm _ _ hji]
        exact h3.2.2

theorem vcDraw_sound {P : Program} {E : List PanicEntry → Heap → Prop} {ops : Array Oper} {n : Nat} {w₀ : World} {Q : Exit → Act → World → Prop} {K : Fr → Heap → Prop}
    {ds : List Nat} {a₀ : Act} (hsel : Region.noSelect ops = true) (hok : ∀ o ∈ ops, okOper n o = true) (hds : ∀ o ∈ ops, ∀ d, o.dst = some d → d ∈ ds)
    (hK : ∀ a fr w, Agrees D n a fr → Same w₀ w → Keeps ds a₀ a → K fr w.heap → Q .normal a w) :
    ∀ (ord : Ord) (S : Stab) (L listed : Array Bool) (sk : List Nat) (a : Act) (fr : Fr) (w : World), outOk ops L = true → Dc ops listed → Agrees D n a fr → Same w₀ w → Keeps ds a₀ a → S.P w.heap →
      (∀ fuel, ord.depth ≤ fuel → vcDraw P E ops ord true S L listed sk fr w.heap K →
        wpSeg P ops (Loose D w₀ E Q) (fun w => Same w₀ w ∧ S.P w.heap) L (fun f a w => wpAny P .any ops (Loose D w₀ E Q) f L a w) fuel listed a w) ∧
      (∀ fuel, ord.depth ≤ fuel + 1 → vcDraw P E ops ord false S L listed sk fr w.heap K → (∀ j ∈ ord.idxs, j ∈ Region.ready .any ops listed) → ∀ j ∈ ord.idxs,
        wpOp P ops (Loose D w₀ E Q) j (fun a' w' => (Same w₀ w' ∧ S.P w'.heap) ∧
          wpSeg P ops (Loose D w₀ E Q) (fun w => Same w₀ w ∧ S.P w.heap) L (fun f a w => wpAny P .any ops (Loose D w₀ E Q) f L a w) fuel (listed.setIfInBounds j true) a' w') a w) := by
  intro ord
  induction ord with
  | done =>
    intro S L listed sk a fr w hout hdc ha hw hkp hS
    refine ⟨fun fuel _ h => ?_, fun fuel _ h _ j hj => by cases hj⟩
    simp only [vcDraw] at h
    split at h
    · rename_i hr
      simp only [Bool.and_eq_true] at hr
      obtain ⟨hr, he⟩ := hr
      obtain rfl := eqB_arr he
      have hr' : Region.ready .any ops listed = [] := by
        cases hl : Region.ready .any ops listed with
        | nil => rfl
        | cons x l => rw [hl] at hr; cases hr
      exact seg_here fuel (wpAny_done (Q := Loose D w₀ E Q) hr' (hK a fr w ha hw hkp h) fuel)
    · exact h.elim
  | stop =>
    intro S L listed sk a fr w hout hdc ha hw hkp hS
    exact ⟨fun fuel _ h => h.elim, fun fuel _ h => h.elim⟩
  | cut m r ih =>
    intro S L listed sk a fr w hout hdc ha hw hkp hS
    refine ⟨fun fuel hf h => ?_, fun fuel _ h _ j hj => by cases hj⟩
    simp only [vcDraw] at h
    split at h
    · exact h.elim
    · rename_i hc
      simp only [Bool.and_eq_true] at hc
      obtain ⟨he, hout'⟩ := hc
      obtain rfl := eqB_arr he
      refine seg_here fuel ?_
      have go : ∀ S' : Stab, S'.P w.heap → vcDraw P E ops r true S' (r.seg listed) listed sk fr w.heap K → wpAny P .any ops (Loose D w₀ E Q) fuel listed a w := by
        intro S' hS' hv
        exact seg_any (fun _ _ _ h => h) fuel listed a w ((ih S' (r.seg listed) listed sk a fr w hout' hdc ha hw hkp hS').1 fuel hf hv)
      split at h
      · exact go (.holds fun _ => True) trivial h
      · exact go (.same w.heap) rfl h
      · obtain ⟨S', hS', hv⟩ := h
        exact go (.holds S') hS' hv
  | take i r ih =>
    intro S L listed sk a fr w hout hdc ha hw hkp hS
    refine ⟨fun fuel hf h => ?_, fun fuel _ h _ j hj => by cases hj⟩
    simp only [Ord.depth] at hf
    obtain ⟨fuel, rfl⟩ : ∃ g, fuel = g + 1 := ⟨fuel - 1, by omega⟩
    have hf' : r.depth ≤ fuel := by omega
    simp only [vcDraw] at h
    split at h
    · exact h.elim
    · rename_i o ho
      have hoko := okOper_spec (hok o (Array.mem_of_getElem? ho))
      have hdo := hds o (Array.mem_of_getElem? ho)
      split at h
      · rename_i hc
        simp only [Bool.and_eq_true] at hc
        obtain ⟨⟨hfree, hcon⟩, hLi⟩ := hc
        obtain ⟨fr', ha', hcase⟩ := vcG_elim ha h
        have hQ : ∀ v c a w, Loose D w₀ E Q (.panic c) (a.put o.dst v) w → Loose D w₀ E Q (.panic c) a w := by
          intro v c a w q
          exact ⟨q.1, q.2.1, by have := q.2.2; rwa [Act.put_defers'] at this⟩
        rcases hcase with ⟨hwant, hA⟩ | ⟨hwant, hB⟩
        · obtain ⟨v, hv, hk⟩ := vcRd_sound ha' hA
          refine seg_first (v := v) ho (Region.noSelect_spec hsel) (hQ v) hLi hout fuel listed a w (Region.free_spec ho hfree) hdc (by simpa using hcon) (.inl ⟨hwant, fun w hw => hv w hw.2⟩) ⟨hw, hS⟩ ?_
          exact (ih S L _ _ _ _ _ hout (hdc.set (by simpa using hcon)) (ha'.put hoko) hw (hkp.put hdo v) hS).1 fuel hf' hk
        · refine seg_first (v := undef) ho (Region.noSelect_spec hsel) (hQ undef) hLi hout fuel listed a w (Region.free_spec ho hfree) hdc (by simpa using hcon) (.inr ⟨hwant, rfl⟩) ⟨hw, hS⟩ ?_
          exact (ih S L _ _ _ _ _ hout (hdc.set (by simpa using hcon)) (ha'.put hoko) hw (hkp.put hdo _) hS).1 fuel hf' hB
      · exact h.elim
  | act i r m ihr ihm =>
    intro S L listed sk a fr w hout hdc ha hw hkp hS
    have part : ∀ fuel, (Ord.act i r m).depth ≤ fuel + 1 → ∀ o, ops[i]? = some o → (vcG ops sk fr o
            (fun fr => vcOp P E fr o w.heap fun v h' => S.P h' ∧ vcDraw P E ops r true S L (listed.setIfInBounds i true) sk (put fr o.dst v) h' K)
            (fun fr => vcDraw P E ops r true S L (listed.setIfInBounds i true) (skip o.dst sk) (put fr o.dst undef) w.heap K) ∧
          (match m.isStop with | true => True | false => vcDraw P E ops m false S L listed sk fr w.heap K)) → (∀ j ∈ (Ord.act i r m).idxs, j ∈ Region.ready .any ops listed) → ∀ j ∈ (Ord.act i r m).idxs,
        wpOp P ops (Loose D w₀ E Q) j (fun a' w' => (Same w₀ w' ∧ S.P w'.heap) ∧
          wpSeg P ops (Loose D w₀ E Q) (fun w => Same w₀ w ∧ S.P w.heap) L (fun f a w => wpAny P .any ops (Loose D w₀ E Q) f L a w) fuel (listed.setIfInBounds j true) a' w') a w := by
      intro fuel hf o ho ⟨h1, h2⟩ hrd j hj
      have hoko := okOper_spec (hok o (Array.mem_of_getElem? ho))
      have hdo := hds o (Array.mem_of_getElem? ho)
      simp only [Ord.depth] at hf
      have hf1 : r.depth ≤ fuel := by omega
      have hf2 : m.depth ≤ fuel + 1 := by omega
      have hdc' := hdc.set (hrd i (by simp [Ord.idxs]))
      simp only [Ord.idxs, List.mem_cons] at hj
      rcases hj with rfl | hj
      · obtain ⟨fr', ha', hcase⟩ := vcG_elim ha h1
        unfold wpOp
        simp only [ho]
        rcases hcase with ⟨hwant, hA⟩ | ⟨hwant, hB⟩
        · simp only [hwant, if_true]
          refine .inl (vcOp_sound ha' (fun v w' hs hk => ?_) (fun c w' hs he => ⟨hw.trans hs, he, ha.defers⟩) hA)
          exact ⟨⟨hw.trans hs, hk.1⟩, (ihr S L _ _ _ _ _ hout hdc' (ha'.put hoko) (hw.trans hs) (hkp.put hdo v) hk.1).1 fuel hf1 hk.2⟩
        · simp only [hwant, Bool.false_eq_true, if_false]
          exact ⟨⟨hw, hS⟩, (ihr S L _ _ _ _ _ hout hdc' (ha'.put hoko) hw (hkp.put hdo _) hS).1 fuel hf1 hB⟩
      · have h2' : vcDraw P E ops m false S L listed sk fr w.heap K := by
          cases m <;> first | exact h2 | (simp [Ord.idxs] at hj; done)
        exact (ihm S L listed sk a fr w hout hdc ha hw hkp hS).2 fuel hf2 h2' (fun k hk => hrd k (by simp [Ord.idxs, hk])) j hj
    refine ⟨fun fuel hf h => ?_, fun fuel hf h hrd j hj => ?_⟩
    · obtain ⟨fuel, rfl⟩ : ∃ g, fuel = g + 1 := ⟨fuel - 1, by simp only [Ord.depth] at hf; omega⟩
      simp only [vcDraw] at h
      split at h
      · exact h.elim
      · rename_i heq
        simp only [Bool.and_eq_true, Bool.not_eq_true'] at heq
        obtain ⟨heq, hneL⟩ := heq
        have hne : listed ≠ L := fun e => by rw [e, eqB_refl] at hneL; cases hneL
        split at h
        · exact h.elim
        · rename_i o ho
          refine ⟨fun e => absurd e hne, fun _ => ⟨by rw [← eqL_eq heq]; simp [Ord.idxs], fun j hj => ?_⟩⟩
          rw [← eqL_eq heq] at hj
          exact part fuel hf o ho h (fun k hk => by rw [eqL_eq heq] at hk; exact hk) j hj
    · simp only [vcDraw] at h
      split at h
      · exact h.elim
      · rename_i o ho
        exact part fuel hf o ho h hrd j hj

/-! ### Code -/
structure Hints where
  /-- a region's outs, where its ways are joined -/
  r : Nat → Option (List Nat)
  /-- the outs ahead of the piece whose first region has this number -/
  s : Nat → Option (List Nat)
  /-- a loop's slots, by its first region -/
  l : Nat → Option (List Nat)
  /-- the order for a region that draws -/
  d : Nat → Option Ord

def firstId : Code → Option Nat
  | .region id _ _ => some id
  | .seq a b => match firstId a with | some i => some i | none => firstId b
  | .cond _ a b => match firstId a with | some i => some i | none => firstId b
  | .block _ c | .loop c | .scope c => firstId c
  | _ => none

def dstsO : List Oper → List Nat
  | [] => []
  | o :: r => match o.dst with | some d => d :: dstsO r | none => dstsO r
def dsts : Code → List Nat
  | .region _ ops _ => dstsO ops.toList
  | .seq a b | .cond _ a b => dsts a ++ dsts b
  | .block _ c | .loop c | .scope c => dsts c
  | _ => []

def looks (fr : Fr) : List Nat → Option (List Value)
  | [] => some []
  | d :: r => match look fr d with
    | some v => match looks fr r with | some vs => some (v :: vs) | none => none
    | none => none
def zipF : List Nat → List Value → Fr → Fr
  | d :: ds, v :: vs, fr => (d, v) :: zipF ds vs fr
  | _, _, fr => fr
def dropF (ds : List Nat) : Fr → Fr
  | [] => []
  | (k, v) :: r => match memN k ds with | true => dropF ds r | false => (k, v) :: dropF ds r

/-- ways that meet again, with n values -/
def JoinN (n : Nat) (m : (List Value → Heap → Prop) → Prop) (k : List Value → Heap → Prop) : Prop :=
  ∃ J : List Value → Heap → Prop, m J ∧ ∀ h, forallN n fun vs => J vs h → k vs h

theorem forallN_intro : ∀ (n : Nat) (p : List Value → Prop), (∀ l : List Value, p l) → forallN n p
  | 0, _, h => h []
  | n + 1, _, h => fun x => forallN_intro n _ fun l => h (x :: l)
theorem JoinN.intro {n : Nat} {m : (List Value → Heap → Prop) → Prop} {k : List Value → Heap → Prop} (h : m k) : JoinN n m k :=
  ⟨k, h, fun _ => forallN_intro n _ fun _ h => h⟩

def regVC (P : Program) (H : Hints) (E : List PanicEntry → Heap → Prop) (id : Nat) (ops : Array Oper) (draw : Bool) (fr : Fr) (h : Heap) (K : Fr → Heap → Prop) : Prop :=
  match draw with
  | false => vcOps P E ops ops.toList [] fr h K
  | true => match H.d id with
    | none => False
    | some order => match Nat.ble order.depth ops.size with
      | false => False
      | true => vcDraw P E ops order true (.same h) (Array.replicate ops.size false) (Array.replicate ops.size false) [] fr h K

def vc (P : Program) (H : Hints) (E : List PanicEntry → Heap → Prop) : Code → Fr → Heap → (Exit → Fr → Heap → Prop) → Prop
  | .skip, fr, h, K => K .normal fr h
  | .label _, fr, h, K => K .normal fr h
  | .ret, fr, h, K => K .ret fr h
  | .exit id, fr, h, K => K (.exit id) fr h
  | .region id ops draw, fr, h, K => match H.r id with
    | none => regVC P H E id ops draw fr h fun fr h => K .normal fr h
    | some outs => JoinN outs.length (fun J => regVC P H E id ops draw fr h fun fr' h' => need (looks fr' outs) fun vs => J vs h')
        (fun vs h' => K .normal (zipF outs vs (dropF (dstsO ops.toList) fr)) h')
  | .seq a b, fr, h, K => match (match firstId b with | some i => H.s i | none => none) with
    | none => vc P H E a fr h fun e fr' h' => match e with | .normal => vc P H E b fr' h' K | e => K e fr' h'
    | some outs => JoinN outs.length (fun J => vc P H E a fr h fun e fr' h' => match e with | .normal => need (looks fr' outs) fun vs => J vs h' | e => K e fr' h')
        (fun vs h' => vc P H E b (zipF outs vs (dropF (dsts a) fr)) h' K)
  | .cond c x y, fr, h, K => need (ev fr c) fun v => boolV v fun b => bcase b (vc P H E x (knowF c true fr) h K) (vc P H E y (knowF c false fr) h K)
  | .block id c, fr, h, K => vc P H E c fr h fun e fr' h' => match e with
    | .exit id' => match Nat.beq id' id with | true => K .normal fr' h' | false => K (.exit id') fr' h'
    | e => K e fr' h'
  | .scope c, fr, h, K => vc P H E c fr h fun e fr' h' => match e with | .goto _ => False | e => K e fr' h'
  | .loop c, fr, h, K => match (match firstId c with | some i => H.l i | none => none) with
    | none => False
    | some slots => need (looks fr slots) fun vs₀ => ∃ (I : List Value → Heap → Prop) (μ : List Value → Heap → Nat), I vs₀ h ∧
        ∀ h', forallN slots.length fun vs => I vs h' → vc P H E c (zipF slots vs (dropF (dsts c) fr)) h' fun e fr'' h'' => match e with
          | .normal => need (looks fr'' slots) fun vs' => I vs' h'' ∧ μ vs' h'' < μ vs h'
          | e => K e fr'' h''
  | _, _, _, _ => False

def okCode (n : Nat) : Code → Bool
  | .region _ ops draw => ops.toList.all (okOper n) && (match draw with | true => Region.noSelect ops | false => true)
  | .seq a b | .cond _ a b => okCode n a && okCode n b
  | .block _ c | .loop c | .scope c => okCode n c
  | _ => true

theorem look_dropF {ds : List Nat} {fr : Fr} {t : Nat} {v : Value} (h : look (dropF ds fr) t = some v) : look fr t = some v ∧ memN t ds = false := by
  induction fr with
  | nil => simp [dropF, look] at h
  | cons x r ih =>
    obtain ⟨k, u⟩ := x
    simp only [dropF] at h
    split at h
    · rename_i hm
      obtain ⟨h1, h2⟩ := ih h
      refine ⟨?_, h2⟩
      simp only [look]
      split
      · rename_i hb
        rw [Nat.eq_of_beq_eq_true hb, h2] at hm; cases hm
      · exact h1
    · rename_i hm
      simp only [look] at h ⊢
      split at h
      · rename_i hb
        cases h
        exact ⟨rfl, by rw [← Nat.eq_of_beq_eq_true hb]; exact hm⟩
      · exact ih h

theorem memN_mem {t : Nat} {l : List Nat} (h : memN t l = false) : t ∉ l := by
  induction l with
  | nil => simp
  | cons x r ih =>
    simp only [memN] at h
    split at h
    · cases h
    · rename_i hb
      intro hm
      cases hm with
      | head => simp at hb
      | tail _ hm => exact ih h hm


theorem looks_zip {n : Nat} {a : Act} {fr fr' : Fr} (hd : a.defers = D) (hs : a.tmps.size = n) : ∀ {outs : List Nat} {vs : List Value}, (∀ t v, look fr' t = some v → a.tmps[t]? = some v) →
    looks fr outs = some vs → Agrees D n a fr → Agrees D n a (zipF outs vs fr')
  | [], vs, hf, e, ha => by simp only [looks, Option.some.injEq] at e; subst e; exact ⟨hd, hs, hf⟩
  | d :: r, vs, hf, e, ha => by
    simp only [looks] at e
    split at e
    · rename_i v hv
      split at e
      · rename_i us hu
        cases e
        have ih := looks_zip hd hs hf hu ha
        refine ⟨hd, hs, fun t u hl => ?_⟩
        simp only [zipF, look] at hl
        split at hl
        · rename_i hb
          cases hl
          rw [← Nat.eq_of_beq_eq_true hb]; exact ha.vals _ _ hv
        · exact ih.vals _ _ hl
      · cases e
    · cases e

theorem looks_length {fr : Fr} : ∀ {outs : List Nat} {vs : List Value}, looks fr outs = some vs → vs.length = outs.length
  | [], vs, e => by simp only [looks, Option.some.injEq] at e; subst e; rfl
  | d :: r, vs, e => by
    simp only [looks] at e
    split at e
    · split at e
      · rename_i us hu; cases e; simp [looks_length hu]
      · cases e
    · cases e

theorem looks_map {n : Nat} {a : Act} {fr : Fr} (ha : Agrees D n a fr) : ∀ {slots : List Nat} {vs : List Value}, looks fr slots = some vs →
    (slots.map fun t => a.tmps.getD t undef) = vs ∧ ∀ t ∈ slots, t < n
  | [], vs, e => by simp only [looks, Option.some.injEq] at e; subst e; exact ⟨rfl, fun _ h => by cases h⟩
  | d :: r, vs, e => by
    simp only [looks] at e
    split at e
    · rename_i v hv
      split at e
      · rename_i us hu
        cases e
        obtain ⟨h1, h2⟩ := looks_map ha hu
        have hd := ha.vals _ _ hv
        have hlt : d < n := by
          rw [← ha.size]
          rcases Nat.lt_or_ge d a.tmps.size with h | h
          · exact h
          · rw [Array.getElem?_eq_none h] at hd; cases hd
        refine ⟨?_, fun t ht => ?_⟩
        · rw [List.map_cons, h1, Array.getD_eq_getD_getElem?, hd, Option.getD_some]
        · cases ht with
          | head => exact hlt
          | tail _ h => exact h2 t h
      · cases e
    · cases e

theorem zip_agrees {n : Nat} {a : Act} {fr : Fr} (hd : a.defers = D) (hs : a.tmps.size = n) (hf : ∀ t v, look fr t = some v → a.tmps[t]? = some v) :
    ∀ (slots : List Nat), (∀ t ∈ slots, t < n) → Agrees D n a (zipF slots (slots.map fun t => a.tmps.getD t undef) fr)
  | [], _ => ⟨hd, hs, hf⟩
  | d :: r, h => by
    have ih := zip_agrees hd hs hf r fun t ht => h t (List.mem_cons_of_mem _ ht)
    refine ⟨hd, hs, fun t u hl => ?_⟩
    simp only [List.map_cons, zipF, look] at hl
    split at hl
    · rename_i hb
      cases hl
      have hdt : d = t := Nat.eq_of_beq_eq_true hb
      subst hdt
      have hlt : d < a.tmps.size := by rw [hs]; exact h d (List.mem_cons_self ..)
      simp [Array.getD_eq_getD_getElem?, Array.getElem?_eq_getElem hlt]
    · exact ih.vals _ _ hl

/-- what a piece of code comes to -/
def Out (D : List Deferred) (n : Nat) (w₀ : World) (ds : List Nat) (a₀ : Act) (E : List PanicEntry → Heap → Prop) (K : Exit → Fr → Heap → Prop) : Exit → Act → World → Prop
  | .panic ch, a, w => Same w₀ w ∧ E ch w.heap ∧ a.defers = D
  | e, a, w => Same w₀ w ∧ Keeps ds a₀ a ∧ ∃ fr, Agrees D n a fr ∧ K e fr w.heap

theorem Out.loose {n : Nat} {w₀ : World} {ds : List Nat} {a₀ : Act} {E : List PanicEntry → Heap → Prop} {K : Exit → Fr → Heap → Prop} (e : Exit) (a : Act) (w : World)
    (h : Loose D w₀ E (Out D n w₀ ds a₀ E K) e a w) : Out D n w₀ ds a₀ E K e a w := by
  cases e <;> exact h

theorem mem_dstsO {l : List Oper} {o : Oper} (ho : o ∈ l) {d : Nat} (hd : o.dst = some d) : d ∈ dstsO l := by
  induction l with
  | nil => cases ho
  | cons x r ih =>
    cases ho with
    | head => simp only [dstsO, hd]; exact List.mem_cons_self ..
    | tail _ h =>
      simp only [dstsO]
      cases x.dst with
      | none => exact ih h
      | some e => exact List.mem_cons_of_mem _ (ih h)

theorem regVC_sound {P : Program} {H : Hints} {E : List PanicEntry → Heap → Prop} {n : Nat} {w₀ : World} (hm : P.follows .mixedOrders = true) {id : Nat} {ops : Array Oper} {draw : Bool}
    {K : Fr → Heap → Prop} {K' : Exit → Fr → Heap → Prop} {a : Act} {fr : Fr} {w : World} (hok : okCode n (.region id ops draw) = true) (ha : Agrees D n a fr) (hw : Same w₀ w)
    (hKK : ∀ a' fr' h', Agrees D n a' fr' → Keeps (dstsO ops.toList) a a' → K fr' h' → ∃ fr'', Agrees D n a' fr'' ∧ K' .normal fr'' h')
    (h : regVC P H E id ops draw fr w.heap K) : (Code.region id ops draw).wp P (Out D n w₀ (dstsO ops.toList) a E K') a w := by
  simp only [okCode, Bool.and_eq_true] at hok
  obtain ⟨hok1, hok2⟩ := hok
  have hds : ∀ o ∈ ops.toList, ∀ d, o.dst = some d → d ∈ dstsO ops.toList := fun o ho d hd => mem_dstsO ho hd
  have hK : ∀ a' fr' w', Agrees D n a' fr' → Same w₀ w' → Keeps (dstsO ops.toList) a a' → K fr' w'.heap → Out D n w₀ (dstsO ops.toList) a E K' .normal a' w' := by
    intro a' fr' w' h1 h2 h3 h4
    exact ⟨h2, h3, hKK _ _ _ h1 h3 h4⟩
  unfold regVC at h
  cases draw with
  | false =>
    simp only at h
    refine wp_region ?_
    rw [List.range_eq_range', ← Array.length_toList]
    exact vcOps_sound (Q := Out D n w₀ (dstsO ops.toList) a E K') hK (fun c a' w' h1 h2 h3 => ⟨h1, h2, h3⟩) ops.toList 0 (by simp) hok1 hds [] a fr w ha hw (Keeps.refl _ _) h
  | true =>
    simp only at h hok2
    have hoko : ∀ o ∈ ops, okOper n o = true := fun o ho => by
      rw [List.all_eq_true] at hok1
      exact hok1 o (by simpa using ho)
    split at h
    · exact h.elim
    · rename_i order _
      split at h
      · exact h.elim
      · rename_i hlen
        refine Code.wp_mono (Out.loose (n := n) (ds := dstsO ops.toList) (a₀ := a) (K := K')) ?_
        refine wp_region_any hm ?_
        have hout : outOk ops (Array.replicate ops.size false) = true := by
          unfold outOk
          rw [List.all_eq_true]
          intro j hj
          simp only [Bool.or_eq_true]
          refine .inr ?_
          split
          · simp only [Bool.or_eq_true]
            refine .inr ?_
            rw [List.all_eq_true]
            intro i hi
            simp [Array.getD_eq_getD_getElem?, Array.getElem?_replicate]
            left
            split <;> rfl
          · rfl
        refine seg_any (L := Array.replicate ops.size false) (S := fun w' => Same w₀ w' ∧ (Stab.same w.heap).P w'.heap) (G := fun f x y => wpAny P .any ops (Loose D w₀ E (Out D n w₀ (dstsO ops.toList) a E K')) f (Array.replicate ops.size false) x y) (fun _ _ _ h => h) ops.size _ a _ ?_
        exact (vcDraw_sound (Q := Out D n w₀ (dstsO ops.toList) a E K') (a₀ := a) hok2 hoko (fun o ho => hds o (by simpa using ho)) hK order (.same w.heap) _ _ [] a fr { w with drawn := w.drawn + 1 } hout (fun j oj hj hl => by simp [Array.getD_eq_getD_getElem?, Array.getElem?_replicate] at hl; split at hl <;> cases hl) ha
          (hw.trans ⟨rfl, rfl, rfl⟩) (Keeps.refl _ _) rfl).1 ops.size (Nat.le_of_ble_eq_true hlen) h

theorem Out.mono {n : Nat} {w₀ : World} {ds ds' : List Nat} {a₀ a₁ : Act} {E : List PanicEntry → Heap → Prop} {K K' : Exit → Fr → Heap → Prop} {e : Exit} {a : Act} {w : World}
    (h : Out D n w₀ ds a₁ E K e a w) (hk : Keeps ds a₁ a → Keeps ds' a₀ a) (hK : ∀ fr h, Agrees D n a fr → K e fr h → ∃ fr', Agrees D n a fr' ∧ K' e fr' h) : Out D n w₀ ds' a₀ E K' e a w := by
  cases e <;> first
    | exact h
    | (obtain ⟨h1, h2, fr, h3, h4⟩ := h
       obtain ⟨fr', h5, h6⟩ := hK fr _ h3 h4
       exact ⟨h1, hk h2, fr', h5, h6⟩)

theorem join_agrees {n : Nat} {a a' : Act} {fr fr' : Fr} {ds outs : List Nat} {vs : List Value} (ha : Agrees D n a fr) (hk : Keeps ds a a') (ha' : Agrees D n a' fr') (hl : looks fr' outs = some vs) :
    Agrees D n a' (zipF outs vs (dropF ds fr)) := by
  refine looks_zip ha'.defers ha'.size ?_ hl ha'
  intro t v h
  obtain ⟨h1, h2⟩ := look_dropF h
  rw [hk.vals t (memN_mem h2)]
  exact ha.vals _ _ h1

theorem vc_sound {P : Program} {H : Hints} {E : List PanicEntry → Heap → Prop} {n : Nat} {w₀ : World} (hm : P.follows .mixedOrders = true) :
    ∀ (c : Code) (fr : Fr) (K : Exit → Fr → Heap → Prop) (a : Act) (w : World), okCode n c = true → Agrees D n a fr → Same w₀ w → vc P H E c fr w.heap K →
      c.wp P (Out D n w₀ (dsts c) a E K) a w := by
  intro c
  induction c with
  | skip => intro fr K a w _ ha hw h; exact wp_skip ⟨hw, Keeps.refl _ _, fr, ha, h⟩
  | label l => intro fr K a w _ ha hw h; exact wp_label ⟨hw, Keeps.refl _ _, fr, ha, h⟩
  | ret => intro fr K a w _ ha hw h; exact wp_ret ⟨hw, Keeps.refl _ _, fr, ha, h⟩
  | exit id => intro fr K a w _ ha hw h; exact wp_exit ⟨hw, Keeps.refl _ _, fr, ha, h⟩
  | goto l => intro fr K a w _ ha hw h; exact h.elim
  | refuse s => intro fr K a w _ ha hw h; exact h.elim
  | rangeFunc f ps x y _ _ => intro fr K a w _ ha hw h; exact h.elim
  | scope c ih =>
    intro fr K a w hok ha hw h
    simp only [okCode] at hok
    simp only [vc] at h
    refine wp_scope_straight (wp_mono (ih fr _ a w hok ha hw h) ?_)
    intro e a' w' ho
    cases e with
    | normal => exact ho
    | exit id => exact ho
    | goto l => obtain ⟨_, _, _, _, h4⟩ := ho; exact h4.elim
    | ret => exact ho
    | panic ch => exact ho
    | outgrown => exact ho
  | region id ops draw =>
    intro fr K a w hok ha hw h
    simp only [vc] at h
    split at h
    · refine regVC_sound hm hok ha hw ?_ h
      intro a' fr' h' h1 _ h3
      exact ⟨fr', h1, h3⟩
    · rename_i outs _
      obtain ⟨J, hJ, hk⟩ := h
      refine regVC_sound hm hok ha hw ?_ hJ
      intro a' fr' h' h1 h2 h3
      obtain ⟨vs, hl, hj⟩ := need_elim h3
      have := forallN_elim _ _ (hk h') vs (looks_length hl) hj
      exact ⟨_, join_agrees ha h2 h1 hl, this⟩
  | seq x y ihx ihy =>
    intro fr K a w hok ha hw h
    simp only [okCode, Bool.and_eq_true] at hok
    simp only [vc] at h
    split at h
    · refine wp_seq (wp_mono (ihx fr _ a w hok.1 ha hw h) ?_)
      intro e a' w' ho
      cases e with
      | normal =>
        obtain ⟨h1, h2, fr', h3, h4⟩ := ho
        refine wp_mono (ihy fr' K a' w' hok.2 h3 h1 h4) ?_
        intro e a2 w2 ho
        refine ho.mono (fun hk => ?_) (fun fr h ha hk => ⟨fr, ha, hk⟩)
        exact (h2.mono fun t ht => List.mem_append_left _ ht).trans (hk.mono fun t ht => List.mem_append_right _ ht)
      | _ => exact Out.mono (ds' := dsts x ++ dsts y) ho (fun hk => hk.mono fun t ht => List.mem_append_left _ ht) (fun fr h ha hk => ⟨fr, ha, hk⟩)
    · rename_i outs _
      obtain ⟨J, hJ, hk⟩ := h
      refine wp_seq (wp_mono (ihx fr _ a w hok.1 ha hw hJ) ?_)
      intro e a' w' ho
      cases e with
      | normal =>
        obtain ⟨h1, h2, fr', h3, h4⟩ := ho
        obtain ⟨vs, hl, hj⟩ := need_elim h4
        have := forallN_elim _ _ (hk w'.heap) vs (looks_length hl) hj
        refine wp_mono (ihy _ K a' w' hok.2 (join_agrees ha h2 h3 hl) h1 this) ?_
        intro e a2 w2 ho
        refine ho.mono (fun hk => ?_) (fun fr h ha hk => ⟨fr, ha, hk⟩)
        exact (h2.mono fun t ht => List.mem_append_left _ ht).trans (hk.mono fun t ht => List.mem_append_right _ ht)
      | _ => exact Out.mono (ds' := dsts x ++ dsts y) ho (fun hk => hk.mono fun t ht => List.mem_append_left _ ht) (fun fr h ha hk => ⟨fr, ha, hk⟩)
  | cond c x y ihx ihy =>
    intro fr K a w hok ha hw h
    simp only [okCode, Bool.and_eq_true] at hok
    simp only [vc] at h
    obtain ⟨v, hb, h⟩ := need_elim h
    obtain ⟨b, rfl, h⟩ := boolV_elim h
    have hkn : ∀ b', ev fr c = some (.bool b') → Agrees D n a (knowF c b' fr) := by
      intro b' he
      cases c with
      | tmp t => exact ha.know he
      | _ => exact ha
    cases b with
    | true =>
      refine wp_cond_true (ha.eval hb) (wp_mono (ihx _ K a w hok.1 (hkn true hb) hw h) ?_)
      intro e a' w' ho
      exact ho.mono (fun hk => hk.mono fun t ht => List.mem_append_left _ ht) (fun fr h ha hk => ⟨fr, ha, hk⟩)
    | false =>
      refine wp_cond_false (ha.eval hb) (wp_mono (ihy _ K a w hok.2 (hkn false hb) hw h) ?_)
      intro e a' w' ho
      exact ho.mono (fun hk => hk.mono fun t ht => List.mem_append_right _ ht) (fun fr h ha hk => ⟨fr, ha, hk⟩)
  | block id c ih =>
    intro fr K a w hok ha hw h
    simp only [vc] at h
    refine wp_block (wp_mono (ih fr _ a w hok ha hw h) ?_)
    intro e a' w' ho
    cases e with
    | exit id' =>
      obtain ⟨h1, h2, fr', h3, h4⟩ := ho
      simp only [Exit.inBlock]
      have h4' : (match Nat.beq id' id with | true => K .normal fr' w'.heap | false => K (.exit id') fr' w'.heap) := h4
      cases hb : Nat.beq id' id with
      | true =>
        rw [hb] at h4'
        rw [if_pos (Nat.eq_of_beq_eq_true hb)]
        exact ⟨h1, h2, fr', h3, h4'⟩
      | false =>
        rw [hb] at h4'
        rw [if_neg (fun e => by subst e; simp at hb)]
        exact ⟨h1, h2, fr', h3, h4'⟩
    | _ => exact ho.mono (fun hk => hk) (fun fr h ha hk => ⟨fr, ha, hk⟩)
  | loop c ih =>
    intro fr K a w hok ha hw h
    simp only [vc] at h
    split at h
    · exact h.elim
    · rename_i slots _
      obtain ⟨vs₀, hl, I, μ, hI, hround⟩ := need_elim h
      obtain ⟨hmap, hlt⟩ := looks_map ha hl
      refine wp_loop (fun a' w' => Same w₀ w' ∧ a'.defers = D ∧ a'.tmps.size = n ∧ Keeps (dsts c) a a' ∧ I (slots.map fun t => a'.tmps.getD t undef) w'.heap)
        (fun a' w' => μ (slots.map fun t => a'.tmps.getD t undef) w'.heap) ⟨hw, ha.defers, ha.size, Keeps.refl _ _, by rw [hmap]; exact hI⟩ ?_
      intro a' w' ⟨h1, h2, h3, h4, h5⟩
      have hag : Agrees D n a' (zipF slots (slots.map fun t => a'.tmps.getD t undef) (dropF (dsts c) fr)) := by
        refine zip_agrees h2 h3 ?_ slots hlt
        intro t v hlk
        obtain ⟨e1, e2⟩ := look_dropF hlk
        rw [h4.vals t (memN_mem e2)]
        exact ha.vals _ _ e1
      have hv := forallN_elim _ _ (hround w'.heap) (slots.map fun t => a'.tmps.getD t undef) (by simp) h5
      refine wp_mono (ih _ _ a' w' hok hag h1 hv) ?_
      intro e a2 w2 ho
      cases e with
      | normal =>
        obtain ⟨k1, k2, fr2, k3, k4⟩ := ho
        obtain ⟨vs', hl', hI', hmu⟩ := need_elim k4
        obtain ⟨hmap', _⟩ := looks_map k3 hl'
        refine ⟨⟨k1, k3.defers, k3.size, h4.trans k2, by rw [hmap']; exact hI'⟩, by rw [hmap']; exact hmu⟩
      | _ => exact ho.mono (fun hk => h4.trans hk) (fun fr h ha hk => ⟨fr, ha, hk⟩)

/-! ### Functions -/
def retAll (P : Program) : List ResultVar → Fr → Heap → (List Value → Prop) → Prop
  | [], _, _, k => k []
  | .tmp t :: r, fr, h, k => need (look fr t) fun v => retAll P r fr h fun vs => k (v :: vs)
  | .cell t T :: r, fr, h, k => need (look fr t) fun a => pLoad P T a h fun v => retAll P r fr h fun vs => k (v :: vs)

def oneV (vs : List Value) : Value := match vs with | [v] => v | vs => .tuple vs.toArray

def enumF : Nat → List Value → Fr
  | _, [] => []
  | i, v :: vs => (i, v) :: enumF (i + 1) vs

def vcFun (P : Program) (H : Hints) (E : List PanicEntry → Heap → Prop) (rs : List ResultVar) (c : Code) (args : List Value) (h : Heap) (R : Value → Heap → Prop) : Prop :=
  vc P H E c (enumF 0 args) h fun e fr h' => match e with
    | .normal | .ret => retAll P rs fr h' fun vs => R (oneV vs) h'
    | _ => False

def resM (tmps : Array Value) : ResultVar → Sem Value
  | .tmp t => pure (tmps.getD t undef)
  | .cell b t => do loadVar t (← asAddr (tmps.getD b undef))

theorem results_eq (fn : Func) (tmps : Array Value) : results fn tmps = ((fn.results.mapM (resM tmps)) >>= fun vs => pure (if h : vs.size = 1 then vs[0] else .tuple vs)) := by
  have e : (fun (r : ResultVar) => match r with
    | .tmp t => (pure (tmps.getD t undef) : Sem Value)
    | .cell a t => (do loadVar t (← asAddr (tmps.getD a undef)) : Sem Value)) = resM tmps := by funext r; cases r <;> rfl
  rw [← e]; rfl

theorem retAll_sound {P : Program} {n : Nat} {a : Act} {fr : Fr} {w : World} (ha : Agrees D n a fr) : ∀ (rs : List ResultVar) (k : List Value → Prop), retAll P rs fr w.heap k →
    ∃ vs, (rs.mapM (resM a.tmps)).run P w = .ok vs w ∧ k vs
  | [], k, h => ⟨[], by simp, h⟩
  | .tmp t :: r, k, h => by
    obtain ⟨v, hv, h⟩ := need_elim h
    obtain ⟨vs, h1, h2⟩ := retAll_sound ha r _ h
    refine ⟨v :: vs, ?_, h2⟩
    have e : a.tmps.getD t undef = v := by rw [Array.getD_eq_getD_getElem?, ha.vals _ _ hv]; rfl
    rw [List.mapM_cons, Sem.run_bind]
    simp only [resM, e, Sem.run_pure, Result.andThen_ok]
    rw [Sem.run_bind, h1]
    simp
  | .cell t T :: r, k, h => by
    obtain ⟨u, hu, h⟩ := need_elim h
    obtain ⟨v, hv', h⟩ := pLoad_sound h
    obtain ⟨vs, h1, h2⟩ := retAll_sound ha r _ h
    refine ⟨v :: vs, ?_, h2⟩
    have e : a.tmps.getD t undef = u := by rw [Array.getD_eq_getD_getElem?, ha.vals _ _ hu]; rfl
    have e2 : (do loadVar T (← asAddr u) : Sem Value).run P w = .ok v w := by
      have hk : ∀ x, (Instr.loadAt T u).run P w = .ok x w → (do loadVar T (← asAddr u) : Sem Value).run P w = .ok x w := by
        intro x hx
        unfold Instr.loadAt Instr.sureAddr at hx
        unfold asAddr
        cases u <;> first | exact hx | (rename_i p; cases p <;> first | exact hx | (simp [stuck] at hx; done)) | (simp [stuck] at hx; done)
      exact hk v hv'
    rw [List.mapM_cons, Sem.run_bind]
    simp only [resM, e]
    rw [e2]
    simp only [Result.andThen_ok]
    rw [Sem.run_bind, h1]
    simp

theorem look_enumF : ∀ (vs : List Value) (i t : Nat) (v : Value), look (enumF i vs) t = some v → i ≤ t ∧ vs[t - i]? = some v
  | [], i, t, v, h => by simp [enumF, look] at h
  | x :: r, i, t, v, h => by
    simp only [enumF, look] at h
    split at h
    · rename_i hb
      have : i = t := Nat.eq_of_beq_eq_true hb
      subst this
      cases h
      simp
    · obtain ⟨h1, h2⟩ := look_enumF r (i + 1) t v h
      refine ⟨by omega, ?_⟩
      have : t - i = (t - (i + 1)) + 1 := by omega
      rw [this, List.getElem?_cons_succ]
      exact h2

theorem calls_of_vc {P : Program} (H : Hints) {E : List PanicEntry → Heap → Prop} {f : FuncId} {fn : Func} {c : Code} {args : List Value} {h : Heap} {R : Value → Heap → Prop}
    (hm : P.follows .mixedOrders = true) (hf : P.funcs[f]? = some fn) (hb : fn.body = some c) (hok : okCode fn.ntmps c = true) (hsz : Nat.ble args.length fn.ntmps = true)
    (hv : vcFun P H E fn.results.toList c args h R) : CallsH P f args.toArray h R E := by
  intro w hw
  subst hw
  refine calls_of_wp hf hb ?_
  have hsz := Nat.le_of_ble_eq_true hsz
  have ha : Agrees [] fn.ntmps { tmps := args.toArray ++ Array.replicate (fn.ntmps - args.toArray.size) undef, defers := [] } (enumF 0 args) := by
    refine ⟨rfl, by simp; omega, ?_⟩
    intro t v hl
    obtain ⟨_, h2⟩ := look_enumF args 0 t v hl
    simp only [Nat.sub_zero] at h2
    have hlt : t < args.length := (List.getElem?_eq_some_iff.1 h2).1
    rw [Array.getElem?_append_left (by simpa using hlt)]
    simpa using h2
  refine wp_mono (vc_sound (w₀ := w) (E := E) hm c _ _ _ w hok ha (Same.refl w) hv) ?_
  intro e a' w' ho
  have fin : Same w w' → ∀ fr, Agrees [] fn.ntmps a' fr → retAll P fn.results.toList fr w'.heap (fun vs => R (oneV vs) w'.heap) →
      a'.defers = [] ∧ ∃ v, (results fn a'.tmps).run P w' = .ok v w' ∧ Post w R E (.returned v) w' := by
    intro h1 fr h3 h4
    obtain ⟨vs, k1, k2⟩ := retAll_sound h3 _ _ h4
    refine ⟨h3.defers, oneV vs, ?_, h1, k2⟩
    rw [results_eq, Array.mapM_eq_mapM_toList (m := Sem), Sem.run_bind, Sem.run_map, k1]
    simp only [Result.andThen_ok, Sem.run_pure]
    congr 1
    unfold oneV
    match vs with
    | [] => rfl
    | [v] => rfl
    | _ :: _ :: _ => simp
  cases e with
  | normal => obtain ⟨h1, _, fr, h3, h4⟩ := ho; exact fin h1 fr h3 h4
  | ret => obtain ⟨h1, _, fr, h3, h4⟩ := ho; exact fin h1 fr h3 h4
  | panic ch => exact ⟨ho.2.2, ho.1, ho.2.1⟩
  | exit id => obtain ⟨_, _, fr, _, h4⟩ := ho; exact h4.elim
  | goto l => obtain ⟨_, _, fr, _, h4⟩ := ho; exact h4.elim
  | outgrown => obtain ⟨_, _, fr, _, h4⟩ := ho; exact h4.elim

/-! ### The printed text's words -/
def Stable (h : Heap) (m : (Heap → Prop) → Prop) : Prop := ∃ S : Heap → Prop, S h ∧ m S
def Join0 (m : (Heap → Prop) → Prop) (k : Heap → Prop) : Prop := ∃ J : List Value → Heap → Prop, m (fun h => J [] h) ∧ ∀ h, J [] h → k h
theorem Join0.intro {m : (Heap → Prop) → Prop} {k : Heap → Prop} (J : Heap → Prop) (hm : m J) (hk : ∀ h, J h → k h) : Join0 m k :=
  ⟨fun l h => match l with | [] => J h | _ => False, hm, fun h hj => hk h hj⟩
theorem Join0.direct {m : (Heap → Prop) → Prop} {k : Heap → Prop} (hm : m k) : Join0 m k := Join0.intro k hm (fun _ h => h)
def Loop0 (h : Heap) (body : (Heap → Prop) → Heap → Prop) : Prop := ∃ (I : List Value → Heap → Prop) (μ : List Value → Heap → Nat), I [] h ∧ ∀ h', I [] h' → body (fun h'' => I [] h'' ∧ μ [] h'' < μ [] h') h'
theorem Loop0.intro {h : Heap} {body : (Heap → Prop) → Heap → Prop} (I : Heap → Prop) (μ : Heap → Nat) (h₀ : I h) (hr : ∀ h, I h → body (fun h' => I h' ∧ μ h' < μ h) h) : Loop0 h body :=
  ⟨fun l h => match l with | [] => I h | _ => False, fun l h => match l with | [] => μ h | _ => 0, h₀, fun h hi => hr h hi⟩
def Join1 (m : (Value → Heap → Prop) → Prop) (k : Value → Heap → Prop) : Prop := ∃ J : List Value → Heap → Prop, m (fun a0 h => J [a0] h) ∧ ∀ h a0, J [a0] h → k a0 h
theorem Join1.intro {m : (Value → Heap → Prop) → Prop} {k : Value → Heap → Prop} (J : Value → Heap → Prop) (hm : m J) (hk : ∀ a0 h, J a0 h → k a0 h) : Join1 m k :=
  ⟨fun l h => match l with | [a0] => J a0 h | _ => False, hm, fun h a0 hj => hk a0 h hj⟩
theorem Join1.direct {m : (Value → Heap → Prop) → Prop} {k : Value → Heap → Prop} (hm : m k) : Join1 m k := Join1.intro k hm (fun _ _ h => h)
def Loop1 (a0 : Value) (h : Heap) (body : (Value → Heap → Prop) → Value → Heap → Prop) : Prop := ∃ (I : List Value → Heap → Prop) (μ : List Value → Heap → Nat), I [a0] h ∧ ∀ h' b0, I [b0] h' → body (fun c0 h'' => I [c0] h'' ∧ μ [c0] h'' < μ [b0] h') b0 h'
theorem Loop1.intro {a0 : Value} {h : Heap} {body : (Value → Heap → Prop) → Value → Heap → Prop} (I : Value → Heap → Prop) (μ : Value → Heap → Nat) (h₀ : I a0 h) (hr : ∀ a0 h, I a0 h → body (fun b0 h' => I b0 h' ∧ μ b0 h' < μ a0 h) a0 h) : Loop1 a0 h body :=
  ⟨fun l h => match l with | [a0] => I a0 h | _ => False, fun l h => match l with | [a0] => μ a0 h | _ => 0, h₀, fun h a0 hi => hr a0 h hi⟩
def Join2 (m : (Value → Value → Heap → Prop) → Prop) (k : Value → Value → Heap → Prop) : Prop := ∃ J : List Value → Heap → Prop, m (fun a0 a1 h => J [a0, a1] h) ∧ ∀ h a0 a1, J [a0, a1] h → k a0 a1 h
theorem Join2.intro {m : (Value → Value → Heap → Prop) → Prop} {k : Value → Value → Heap → Prop} (J : Value → Value → Heap → Prop) (hm : m J) (hk : ∀ a0 a1 h, J a0 a1 h → k a0 a1 h) : Join2 m k :=
  ⟨fun l h => match l with | [a0, a1] => J a0 a1 h | _ => False, hm, fun h a0 a1 hj => hk a0 a1 h hj⟩
theorem Join2.direct {m : (Value → Value → Heap → Prop) → Prop} {k : Value → Value → Heap → Prop} (hm : m k) : Join2 m k := Join2.intro k hm (fun _ _ _ h => h)
def Loop2 (a0 a1 : Value) (h : Heap) (body : (Value → Value → Heap → Prop) → Value → Value → Heap → Prop) : Prop := ∃ (I : List Value → Heap → Prop) (μ : List Value → Heap → Nat), I [a0, a1] h ∧ ∀ h' b0 b1, I [b0, b1] h' → body (fun c0 c1 h'' => I [c0, c1] h'' ∧ μ [c0, c1] h'' < μ [b0, b1] h') b0 b1 h'
theorem Loop2.intro {a0 a1 : Value} {h : Heap} {body : (Value → Value → Heap → Prop) → Value → Value → Heap → Prop} (I : Value → Value → Heap → Prop) (μ : Value → Value → Heap → Nat) (h₀ : I a0 a1 h) (hr : ∀ a0 a1 h, I a0 a1 h → body (fun b0 b1 h' => I b0 b1 h' ∧ μ b0 b1 h' < μ a0 a1 h) a0 a1 h) : Loop2 a0 a1 h body :=
  ⟨fun l h => match l with | [a0, a1] => I a0 a1 h | _ => False, fun l h => match l with | [a0, a1] => μ a0 a1 h | _ => 0, h₀, fun h a0 a1 hi => hr a0 a1 h hi⟩
def Join3 (m : (Value → Value → Value → Heap → Prop) → Prop) (k : Value → Value → Value → Heap → Prop) : Prop := ∃ J : List Value → Heap → Prop, m (fun a0 a1 a2 h => J [a0, a1, a2] h) ∧ ∀ h a0 a1 a2, J [a0, a1, a2] h → k a0 a1 a2 h
theorem Join3.intro {m : (Value → Value → Value → Heap → Prop) → Prop} {k : Value → Value → Value → Heap → Prop} (J : Value → Value → Value → Heap → Prop) (hm : m J) (hk : ∀ a0 a1 a2 h, J a0 a1 a2 h → k a0 a1 a2 h) : Join3 m k :=
  ⟨fun l h => match l with | [a0, a1, a2] => J a0 a1 a2 h | _ => False, hm, fun h a0 a1 a2 hj => hk a0 a1 a2 h hj⟩
theorem Join3.direct {m : (Value → Value → Value → Heap → Prop) → Prop} {k : Value → Value → Value → Heap → Prop} (hm : m k) : Join3 m k := Join3.intro k hm (fun _ _ _ _ h => h)
def Loop3 (a0 a1 a2 : Value) (h : Heap) (body : (Value → Value → Value → Heap → Prop) → Value → Value → Value → Heap → Prop) : Prop := ∃ (I : List Value → Heap → Prop) (μ : List Value → Heap → Nat), I [a0, a1, a2] h ∧ ∀ h' b0 b1 b2, I [b0, b1, b2] h' → body (fun c0 c1 c2 h'' => I [c0, c1, c2] h'' ∧ μ [c0, c1, c2] h'' < μ [b0, b1, b2] h') b0 b1 b2 h'
theorem Loop3.intro {a0 a1 a2 : Value} {h : Heap} {body : (Value → Value → Value → Heap → Prop) → Value → Value → Value → Heap → Prop} (I : Value → Value → Value → Heap → Prop) (μ : Value → Value → Value → Heap → Nat) (h₀ : I a0 a1 a2 h) (hr : ∀ a0 a1 a2 h, I a0 a1 a2 h → body (fun b0 b1 b2 h' => I b0 b1 b2 h' ∧ μ b0 b1 b2 h' < μ a0 a1 a2 h) a0 a1 a2 h) : Loop3 a0 a1 a2 h body :=
  ⟨fun l h => match l with | [a0, a1, a2] => I a0 a1 a2 h | _ => False, fun l h => match l with | [a0, a1, a2] => μ a0 a1 a2 h | _ => 0, h₀, fun h a0 a1 a2 hi => hr a0 a1 a2 h hi⟩
def Join4 (m : (Value → Value → Value → Value → Heap → Prop) → Prop) (k : Value → Value → Value → Value → Heap → Prop) : Prop := ∃ J : List Value → Heap → Prop, m (fun a0 a1 a2 a3 h => J [a0, a1, a2, a3] h) ∧ ∀ h a0 a1 a2 a3, J [a0, a1, a2, a3] h → k a0 a1 a2 a3 h
theorem Join4.intro {m : (Value → Value → Value → Value → Heap → Prop) → Prop} {k : Value → Value → Value → Value → Heap → Prop} (J : Value → Value → Value → Value → Heap → Prop) (hm : m J) (hk : ∀ a0 a1 a2 a3 h, J a0 a1 a2 a3 h → k a0 a1 a2 a3 h) : Join4 m k :=
  ⟨fun l h => match l with | [a0, a1, a2, a3] => J a0 a1 a2 a3 h | _ => False, hm, fun h a0 a1 a2 a3 hj => hk a0 a1 a2 a3 h hj⟩
theorem Join4.direct {m : (Value → Value → Value → Value → Heap → Prop) → Prop} {k : Value → Value → Value → Value → Heap → Prop} (hm : m k) : Join4 m k := Join4.intro k hm (fun _ _ _ _ _ h => h)
def Loop4 (a0 a1 a2 a3 : Value) (h : Heap) (body : (Value → Value → Value → Value → Heap → Prop) → Value → Value → Value → Value → Heap → Prop) : Prop := ∃ (I : List Value → Heap → Prop) (μ : List Value → Heap → Nat), I [a0, a1, a2, a3] h ∧ ∀ h' b0 b1 b2 b3, I [b0, b1, b2, b3] h' → body (fun c0 c1 c2 c3 h'' => I [c0, c1, c2, c3] h'' ∧ μ [c0, c1, c2, c3] h'' < μ [b0, b1, b2, b3] h') b0 b1 b2 b3 h'
theorem Loop4.intro {a0 a1 a2 a3 : Value} {h : Heap} {body : (Value → Value → Value → Value → Heap → Prop) → Value → Value → Value → Value → Heap → Prop} (I : Value → Value → Value → Value → Heap → Prop) (μ : Value → Value → Value → Value → Heap → Nat) (h₀ : I a0 a1 a2 a3 h) (hr : ∀ a0 a1 a2 a3 h, I a0 a1 a2 a3 h → body (fun b0 b1 b2 b3 h' => I b0 b1 b2 b3 h' ∧ μ b0 b1 b2 b3 h' < μ a0 a1 a2 a3 h) a0 a1 a2 a3 h) : Loop4 a0 a1 a2 a3 h body :=
  ⟨fun l h => match l with | [a0, a1, a2, a3] => I a0 a1 a2 a3 h | _ => False, fun l h => match l with | [a0, a1, a2, a3] => μ a0 a1 a2 a3 h | _ => 0, h₀, fun h a0 a1 a2 a3 hi => hr a0 a1 a2 a3 h hi⟩
def Join5 (m : (Value → Value → Value → Value → Value → Heap → Prop) → Prop) (k : Value → Value → Value → Value → Value → Heap → Prop) : Prop := ∃ J : List Value → Heap → Prop, m (fun a0 a1 a2 a3 a4 h => J [a0, a1, a2, a3, a4] h) ∧ ∀ h a0 a1 a2 a3 a4, J [a0, a1, a2, a3, a4] h → k a0 a1 a2 a3 a4 h
theorem Join5.intro {m : (Value → Value → Value → Value → Value → Heap → Prop) → Prop} {k : Value → Value → Value → Value → Value → Heap → Prop} (J : Value → Value → Value → Value → Value → Heap → Prop) (hm : m J) (hk : ∀ a0 a1 a2 a3 a4 h, J a0 a1 a2 a3 a4 h → k a0 a1 a2 a3 a4 h) : Join5 m k :=
  ⟨fun l h => match l with | [a0, a1, a2, a3, a4] => J a0 a1 a2 a3 a4 h | _ => False, hm, fun h a0 a1 a2 a3 a4 hj => hk a0 a1 a2 a3 a4 h hj⟩
theorem Join5.direct {m : (Value → Value → Value → Value → Value → Heap → Prop) → Prop} {k : Value → Value → Value → Value → Value → Heap → Prop} (hm : m k) : Join5 m k := Join5.intro k hm (fun _ _ _ _ _ _ h => h)
def Loop5 (a0 a1 a2 a3 a4 : Value) (h : Heap) (body : (Value → Value → Value → Value → Value → Heap → Prop) → Value → Value → Value → Value → Value → Heap → Prop) : Prop := ∃ (I : List Value → Heap → Prop) (μ : List Value → Heap → Nat), I [a0, a1, a2, a3, a4] h ∧ ∀ h' b0 b1 b2 b3 b4, I [b0, b1, b2, b3, b4] h' → body (fun c0 c1 c2 c3 c4 h'' => I [c0, c1, c2, c3, c4] h'' ∧ μ [c0, c1, c2, c3, c4] h'' < μ [b0, b1, b2, b3, b4] h') b0 b1 b2 b3 b4 h'
theorem Loop5.intro {a0 a1 a2 a3 a4 : Value} {h : Heap} {body : (Value → Value → Value → Value → Value → Heap → Prop) → Value → Value → Value → Value → Value → Heap → Prop} (I : Value → Value → Value → Value → Value → Heap → Prop) (μ : Value → Value → Value → Value → Value → Heap → Nat) (h₀ : I a0 a1 a2 a3 a4 h) (hr : ∀ a0 a1 a2 a3 a4 h, I a0 a1 a2 a3 a4 h → body (fun b0 b1 b2 b3 b4 h' => I b0 b1 b2 b3 b4 h' ∧ μ b0 b1 b2 b3 b4 h' < μ a0 a1 a2 a3 a4 h) a0 a1 a2 a3 a4 h) : Loop5 a0 a1 a2 a3 a4 h body :=
  ⟨fun l h => match l with | [a0, a1, a2, a3, a4] => I a0 a1 a2 a3 a4 h | _ => False, fun l h => match l with | [a0, a1, a2, a3, a4] => μ a0 a1 a2 a3 a4 h | _ => 0, h₀, fun h a0 a1 a2 a3 a4 hi => hr a0 a1 a2 a3 a4 h hi⟩
def Join6 (m : (Value → Value → Value → Value → Value → Value → Heap → Prop) → Prop) (k : Value → Value → Value → Value → Value → Value → Heap → Prop) : Prop := ∃ J : List Value → Heap → Prop, m (fun a0 a1 a2 a3 a4 a5 h => J [a0, a1, a2, a3, a4, a5] h) ∧ ∀ h a0 a1 a2 a3 a4 a5, J [a0, a1, a2, a3, a4, a5] h → k a0 a1 a2 a3 a4 a5 h
theorem Join6.intro {m : (Value → Value → Value → Value → Value → Value → Heap → Prop) → Prop} {k : Value → Value → Value → Value → Value → Value → Heap → Prop} (J : Value → Value → Value → Value → Value → Value → Heap → Prop) (hm : m J) (hk : ∀ a0 a1 a2 a3 a4 a5 h, J a0 a1 a2 a3 a4 a5 h → k a0 a1 a2 a3 a4 a5 h) : Join6 m k :=
  ⟨fun l h => match l with | [a0, a1, a2, a3, a4, a5] => J a0 a1 a2 a3 a4 a5 h | _ => False, hm, fun h a0 a1 a2 a3 a4 a5 hj => hk a0 a1 a2 a3 a4 a5 h hj⟩
theorem Join6.direct {m : (Value → Value → Value → Value → Value → Value → Heap → Prop) → Prop} {k : Value → Value → Value → Value → Value → Value → Heap → Prop} (hm : m k) : Join6 m k := Join6.intro k hm (fun _ _ _ _ _ _ _ h => h)
def Loop6 (a0 a1 a2 a3 a4 a5 : Value) (h : Heap) (body : (Value → Value → Value → Value → Value → Value → Heap → Prop) → Value → Value → Value → Value → Value → Value → Heap → Prop) : Prop := ∃ (I : List Value → Heap → Prop) (μ : List Value → Heap → Nat), I [a0, a1, a2, a3, a4, a5] h ∧ ∀ h' b0 b1 b2 b3 b4 b5, I [b0, b1, b2, b3, b4, b5] h' → body (fun c0 c1 c2 c3 c4 c5 h'' => I [c0, c1, c2, c3, c4, c5] h'' ∧ μ [c0, c1, c2, c3, c4, c5] h'' < μ [b0, b1, b2, b3, b4, b5] h') b0 b1 b2 b3 b4 b5 h'
theorem Loop6.intro {a0 a1 a2 a3 a4 a5 : Value} {h : Heap} {body : (Value → Value → Value → Value → Value → Value → Heap → Prop) → Value → Value → Value → Value → Value → Value → Heap → Prop} (I : Value → Value → Value → Value → Value → Value → Heap → Prop) (μ : Value → Value → Value → Value → Value → Value → Heap → Nat) (h₀ : I a0 a1 a2 a3 a4 a5 h) (hr : ∀ a0 a1 a2 a3 a4 a5 h, I a0 a1 a2 a3 a4 a5 h → body (fun b0 b1 b2 b3 b4 b5 h' => I b0 b1 b2 b3 b4 b5 h' ∧ μ b0 b1 b2 b3 b4 b5 h' < μ a0 a1 a2 a3 a4 a5 h) a0 a1 a2 a3 a4 a5 h) : Loop6 a0 a1 a2 a3 a4 a5 h body :=
  ⟨fun l h => match l with | [a0, a1, a2, a3, a4, a5] => I a0 a1 a2 a3 a4 a5 h | _ => False, fun l h => match l with | [a0, a1, a2, a3, a4, a5] => μ a0 a1 a2 a3 a4 a5 h | _ => 0, h₀, fun h a0 a1 a2 a3 a4 a5 hi => hr a0 a1 a2 a3 a4 a5 h hi⟩
def Join7 (m : (Value → Value → Value → Value → Value → Value → Value → Heap → Prop) → Prop) (k : Value → Value → Value → Value → Value → Value → Value → Heap → Prop) : Prop := ∃ J : List Value → Heap → Prop, m (fun a0 a1 a2 a3 a4 a5 a6 h => J [a0, a1, a2, a3, a4, a5, a6] h) ∧ ∀ h a0 a1 a2 a3 a4 a5 a6, J [a0, a1, a2, a3, a4, a5, a6] h → k a0 a1 a2 a3 a4 a5 a6 h
theorem Join7.intro {m : (Value → Value → Value → Value → Value → Value → Value → Heap → Prop) → Prop} {k : Value → Value → Value → Value → Value → Value → Value → Heap → Prop} (J : Value → Value → Value → Value → Value → Value → Value → Heap → Prop) (hm : m J) (hk : ∀ a0 a1 a2 a3 a4 a5 a6 h, J a0 a1 a2 a3 a4 a5 a6 h → k a0 a1 a2 a3 a4 a5 a6 h) : Join7 m k :=
  ⟨fun l h => match l with | [a0, a1, a2, a3, a4, a5, a6] => J a0 a1 a2 a3 a4 a5 a6 h | _ => False, hm, fun h a0 a1 a2 a3 a4 a5 a6 hj => hk a0 a1 a2 a3 a4 a5 a6 h hj⟩
theorem Join7.direct {m : (Value → Value → Value → Value → Value → Value → Value → Heap → Prop) → Prop} {k : Value → Value → Value → Value → Value → Value → Value → Heap → Prop} (hm : m k) : Join7 m k := Join7.intro k hm (fun _ _ _ _ _ _ _ _ h => h)
def Loop7 (a0 a1 a2 a3 a4 a5 a6 : Value) (h : Heap) (body : (Value → Value → Value → Value → Value → Value → Value → Heap → Prop) → Value → Value → Value → Value → Value → Value → Value → Heap → Prop) : Prop := ∃ (I : List Value → Heap → Prop) (μ : List Value → Heap → Nat), I [a0, a1, a2, a3, a4, a5, a6] h ∧ ∀ h' b0 b1 b2 b3 b4 b5 b6, I [b0, b1, b2, b3, b4, b5, b6] h' → body (fun c0 c1 c2 c3 c4 c5 c6 h'' => I [c0, c1, c2, c3, c4, c5, c6] h'' ∧ μ [c0, c1, c2, c3, c4, c5, c6] h'' < μ [b0, b1, b2, b3, b4, b5, b6] h') b0 b1 b2 b3 b4 b5 b6 h'
theorem Loop7.intro {a0 a1 a2 a3 a4 a5 a6 : Value} {h : Heap} {body : (Value → Value → Value → Value → Value → Value → Value → Heap → Prop) → Value → Value → Value → Value → Value → Value → Value → Heap → Prop} (I : Value → Value → Value → Value → Value → Value → Value → Heap → Prop) (μ : Value → Value → Value → Value → Value → Value → Value → Heap → Nat) (h₀ : I a0 a1 a2 a3 a4 a5 a6 h) (hr : ∀ a0 a1 a2 a3 a4 a5 a6 h, I a0 a1 a2 a3 a4 a5 a6 h → body (fun b0 b1 b2 b3 b4 b5 b6 h' => I b0 b1 b2 b3 b4 b5 b6 h' ∧ μ b0 b1 b2 b3 b4 b5 b6 h' < μ a0 a1 a2 a3 a4 a5 a6 h) a0 a1 a2 a3 a4 a5 a6 h) : Loop7 a0 a1 a2 a3 a4 a5 a6 h body :=
  ⟨fun l h => match l with | [a0, a1, a2, a3, a4, a5, a6] => I a0 a1 a2 a3 a4 a5 a6 h | _ => False, fun l h => match l with | [a0, a1, a2, a3, a4, a5, a6] => μ a0 a1 a2 a3 a4 a5 a6 h | _ => 0, h₀, fun h a0 a1 a2 a3 a4 a5 a6 hi => hr a0 a1 a2 a3 a4 a5 a6 h hi⟩
def Join8 (m : (Value → Value → Value → Value → Value → Value → Value → Value → Heap → Prop) → Prop) (k : Value → Value → Value → Value → Value → Value → Value → Value → Heap → Prop) : Prop := ∃ J : List Value → Heap → Prop, m (fun a0 a1 a2 a3 a4 a5 a6 a7 h => J [a0, a1, a2, a3, a4, a5, a6, a7] h) ∧ ∀ h a0 a1 a2 a3 a4 a5 a6 a7, J [a0, a1, a2, a3, a4, a5, a6, a7] h → k a0 a1 a2 a3 a4 a5 a6 a7 h
theorem Join8.intro {m : (Value → Value → Value → Value → Value → Value → Value → Value → Heap → Prop) → Prop} {k : Value → Value → Value → Value → Value → Value → Value → Value → Heap → Prop} (J : Value → Value → Value → Value → Value → Value → Value → Value → Heap → Prop) (hm : m J) (hk : ∀ a0 a1 a2 a3 a4 a5 a6 a7 h, J a0 a1 a2 a3 a4 a5 a6 a7 h → k a0 a1 a2 a3 a4 a5 a6 a7 h) : Join8 m k :=
  ⟨fun l h => match l with | [a0, a1, a2, a3, a4, a5, a6, a7] => J a0 a1 a2 a3 a4 a5 a6 a7 h | _ => False, hm, fun h a0 a1 a2 a3 a4 a5 a6 a7 hj => hk a0 a1 a2 a3 a4 a5 a6 a7 h hj⟩
theorem Join8.direct {m : (Value → Value → Value → Value → Value → Value → Value → Value → Heap → Prop) → Prop} {k : Value → Value → Value → Value → Value → Value → Value → Value → Heap → Prop} (hm : m k) : Join8 m k := Join8.intro k hm (fun _ _ _ _ _ _ _ _ _ h => h)
def Loop8 (a0 a1 a2 a3 a4 a5 a6 a7 : Value) (h : Heap) (body : (Value → Value → Value → Value → Value → Value → Value → Value → Heap → Prop) → Value → Value → Value → Value → Value → Value → Value → Value → Heap → Prop) : Prop := ∃ (I : List Value → Heap → Prop) (μ : List Value → Heap → Nat), I [a0, a1, a2, a3, a4, a5, a6, a7] h ∧ ∀ h' b0 b1 b2 b3 b4 b5 b6 b7, I [b0, b1, b2, b3, b4, b5, b6, b7] h' → body (fun c0 c1 c2 c3 c4 c5 c6 c7 h'' => I [c0, c1, c2, c3, c4, c5, c6, c7] h'' ∧ μ [c0, c1, c2, c3, c4, c5, c6, c7] h'' < μ [b0, b1, b2, b3, b4, b5, b6, b7] h') b0 b1 b2 b3 b4 b5 b6 b7 h'
theorem Loop8.intro {a0 a1 a2 a3 a4 a5 a6 a7 : Value} {h : Heap} {body : (Value → Value → Value → Value → Value → Value → Value → Value → Heap → Prop) → Value → Value → Value → Value → Value → Value → Value → Value → Heap → Prop} (I : Value → Value → Value → Value → Value → Value → Value → Value → Heap → Prop) (μ : Value → Value → Value → Value → Value → Value → Value → Value → Heap → Nat) (h₀ : I a0 a1 a2 a3 a4 a5 a6 a7 h) (hr : ∀ a0 a1 a2 a3 a4 a5 a6 a7 h, I a0 a1 a2 a3 a4 a5 a6 a7 h → body (fun b0 b1 b2 b3 b4 b5 b6 b7 h' => I b0 b1 b2 b3 b4 b5 b6 b7 h' ∧ μ b0 b1 b2 b3 b4 b5 b6 b7 h' < μ a0 a1 a2 a3 a4 a5 a6 a7 h) a0 a1 a2 a3 a4 a5 a6 a7 h) : Loop8 a0 a1 a2 a3 a4 a5 a6 a7 h body :=
  ⟨fun l h => match l with | [a0, a1, a2, a3, a4, a5, a6, a7] => I a0 a1 a2 a3 a4 a5 a6 a7 h | _ => False, fun l h => match l with | [a0, a1, a2, a3, a4, a5, a6, a7] => μ a0 a1 a2 a3 a4 a5 a6 a7 h | _ => 0, h₀, fun h a0 a1 a2 a3 a4 a5 a6 a7 hi => hr a0 a1 a2 a3 a4 a5 a6 a7 h hi⟩
def Join9 (m : (Value → Value → Value → Value → Value → Value → Value → Value → Value → Heap → Prop) → Prop) (k : Value → Value → Value → Value → Value → Value → Value → Value → Value → Heap → Prop) : Prop := ∃ J : List Value → Heap → Prop, m (fun a0 a1 a2 a3 a4 a5 a6 a7 a8 h => J [a0, a1, a2, a3, a4, a5, a6, a7, a8] h) ∧ ∀ h a0 a1 a2 a3 a4 a5 a6 a7 a8, J [a0, a1, a2, a3, a4, a5, a6, a7, a8] h → k a0 a1 a2 a3 a4 a5 a6 a7 a8 h
theorem Join9.intro {m : (Value → Value → Value → Value → Value → Value → Value → Value → Value → Heap → Prop) → Prop} {k : Value → Value → Value → Value → Value → Value → Value → Value → Value → Heap → Prop} (J : Value → Value → Value → Value → Value → Value → Value → Value → Value → Heap → Prop) (hm : m J) (hk : ∀ a0 a1 a2 a3 a4 a5 a6 a7 a8 h, J a0 a1 a2 a3 a4 a5 a6 a7 a8 h → k a0 a1 a2 a3 a4 a5 a6 a7 a8 h) : Join9 m k :=
  ⟨fun l h => match l with | [a0, a1, a2, a3, a4, a5, a6, a7, a8] => J a0 a1 a2 a3 a4 a5 a6 a7 a8 h | _ => False, hm, fun h a0 a1 a2 a3 a4 a5 a6 a7 a8 hj => hk a0 a1 a2 a3 a4 a5 a6 a7 a8 h hj⟩
theorem Join9.direct {m : (Value → Value → Value → Value → Value → Value → Value → Value → Value → Heap → Prop) → Prop} {k : Value → Value → Value → Value → Value → Value → Value → Value → Value → Heap → Prop} (hm : m k) : Join9 m k := Join9.intro k hm (fun _ _ _ _ _ _ _ _ _ _ h => h)
def Loop9 (a0 a1 a2 a3 a4 a5 a6 a7 a8 : Value) (h : Heap) (body : (Value → Value → Value → Value → Value → Value → Value → Value → Value → Heap → Prop) → Value → Value → Value → Value → Value → Value → Value → Value → Value → Heap → Prop) : Prop := ∃ (I : List Value → Heap → Prop) (μ : List Value → Heap → Nat), I [a0, a1, a2, a3, a4, a5, a6, a7, a8] h ∧ ∀ h' b0 b1 b2 b3 b4 b5 b6 b7 b8, I [b0, b1, b2, b3, b4, b5, b6, b7, b8] h' → body (fun c0 c1 c2 c3 c4 c5 c6 c7 c8 h'' => I [c0, c1, c2, c3, c4, c5, c6, c7, c8] h'' ∧ μ [c0, c1, c2, c3, c4, c5, c6, c7, c8] h'' < μ [b0, b1, b2, b3, b4, b5, b6, b7, b8] h') b0 b1 b2 b3 b4 b5 b6 b7 b8 h'
theorem Loop9.intro {a0 a1 a2 a3 a4 a5 a6 a7 a8 : Value} {h : Heap} {body : (Value → Value → Value → Value → Value → Value → Value → Value → Value → Heap → Prop) → Value → Value → Value → Value → Value → Value → Value → Value → Value → Heap → Prop} (I : Value → Value → Value → Value → Value → Value → Value → Value → Value → Heap → Prop) (μ : Value → Value → Value → Value → Value → Value → Value → Value → Value → Heap → Nat) (h₀ : I a0 a1 a2 a3 a4 a5 a6 a7 a8 h) (hr : ∀ a0 a1 a2 a3 a4 a5 a6 a7 a8 h, I a0 a1 a2 a3 a4 a5 a6 a7 a8 h → body (fun b0 b1 b2 b3 b4 b5 b6 b7 b8 h' => I b0 b1 b2 b3 b4 b5 b6 b7 b8 h' ∧ μ b0 b1 b2 b3 b4 b5 b6 b7 b8 h' < μ a0 a1 a2 a3 a4 a5 a6 a7 a8 h) a0 a1 a2 a3 a4 a5 a6 a7 a8 h) : Loop9 a0 a1 a2 a3 a4 a5 a6 a7 a8 h body :=
  ⟨fun l h => match l with | [a0, a1, a2, a3, a4, a5, a6, a7, a8] => I a0 a1 a2 a3 a4 a5 a6 a7 a8 h | _ => False, fun l h => match l with | [a0, a1, a2, a3, a4, a5, a6, a7, a8] => μ a0 a1 a2 a3 a4 a5 a6 a7 a8 h | _ => 0, h₀, fun h a0 a1 a2 a3 a4 a5 a6 a7 a8 hi => hr a0 a1 a2 a3 a4 a5 a6 a7 a8 h hi⟩
def Join10 (m : (Value → Value → Value → Value → Value → Value → Value → Value → Value → Value → Heap → Prop) → Prop) (k : Value → Value → Value → Value → Value → Value → Value → Value → Value → Value → Heap → Prop) : Prop := ∃ J : List Value → Heap → Prop, m (fun a0 a1 a2 a3 a4 a5 a6 a7 a8 a9 h => J [a0, a1, a2, a3, a4, a5, a6, a7, a8, a9] h) ∧ ∀ h a0 a1 a2 a3 a4 a5 a6 a7 a8 a9, J [a0, a1, a2, a3, a4, a5, a6, a7, a8, a9] h → k a0 a1 a2 a3 a4 a5 a6 a7 a8 a9 h
theorem Join10.intro {m : (Value → Value → Value → Value → Value → Value → Value → Value → Value → Value → Heap → Prop) → Prop} {k : Value → Value → Value → Value → Value → Value → Value → Value → Value → Value → Heap → Prop} (J : Value → Value → Value → Value → Value → Value → Value → Value → Value → Value → Heap → Prop) (hm : m J) (hk : ∀ a0 a1 a2 a3 a4 a5 a6 a7 a8 a9 h, J a0 a1 a2 a3 a4 a5 a6 a7 a8 a9 h → k a0 a1 a2 a3 a4 a5 a6 a7 a8 a9 h) : Join10 m k :=
  ⟨fun l h => match l with | [a0, a1, a2, a3, a4, a5, a6, a7, a8, a9] => J a0 a1 a2 a3 a4 a5 a6 a7 a8 a9 h | _ => False, hm, fun h a0 a1 a2 a3 a4 a5 a6 a7 a8 a9 hj => hk a0 a1 a2 a3 a4 a5 a6 a7 a8 a9 h hj⟩
theorem Join10.direct {m : (Value → Value → Value → Value → Value → Value → Value → Value → Value → Value → Heap → Prop) → Prop} {k : Value → Value → Value → Value → Value → Value → Value → Value → Value → Value → Heap → Prop} (hm : m k) : Join10 m k := Join10.intro k hm (fun _ _ _ _ _ _ _ _ _ _ _ h => h)
def Loop10 (a0 a1 a2 a3 a4 a5 a6 a7 a8 a9 : Value) (h : Heap) (body : (Value → Value → Value → Value → Value → Value → Value → Value → Value → Value → Heap → Prop) → Value → Value → Value → Value → Value → Value → Value → Value → Value → Value → Heap → Prop) : Prop := ∃ (I : List Value → Heap → Prop) (μ : List Value → Heap → Nat), I [a0, a1, a2, a3, a4, a5, a6, a7, a8, a9] h ∧ ∀ h' b0 b1 b2 b3 b4 b5 b6 b7 b8 b9, I [b0, b1, b2, b3, b4, b5, b6, b7, b8, b9] h' → body (fun c0 c1 c2 c3 c4 c5 c6 c7 c8 c9 h'' => I [c0, c1, c2, c3, c4, c5, c6, c7, c8, c9] h'' ∧ μ [c0, c1, c2, c3, c4, c5, c6, c7, c8, c9] h'' < μ [b0, b1, b2, b3, b4, b5, b6, b7, b8, b9] h') b0 b1 b2 b3 b4 b5 b6 b7 b8 b9 h'
theorem Loop10.intro {a0 a1 a2 a3 a4 a5 a6 a7 a8 a9 : Value} {h : Heap} {body : (Value → Value → Value → Value → Value → Value → Value → Value → Value → Value → Heap → Prop) → Value → Value → Value → Value → Value → Value → Value → Value → Value → Value → Heap → Prop} (I : Value → Value → Value → Value → Value → Value → Value → Value → Value → Value → Heap → Prop) (μ : Value → Value → Value → Value → Value → Value → Value → Value → Value → Value → Heap → Nat) (h₀ : I a0 a1 a2 a3 a4 a5 a6 a7 a8 a9 h) (hr : ∀ a0 a1 a2 a3 a4 a5 a6 a7 a8 a9 h, I a0 a1 a2 a3 a4 a5 a6 a7 a8 a9 h → body (fun b0 b1 b2 b3 b4 b5 b6 b7 b8 b9 h' => I b0 b1 b2 b3 b4 b5 b6 b7 b8 b9 h' ∧ μ b0 b1 b2 b3 b4 b5 b6 b7 b8 b9 h' < μ a0 a1 a2 a3 a4 a5 a6 a7 a8 a9 h) a0 a1 a2 a3 a4 a5 a6 a7 a8 a9 h) : Loop10 a0 a1 a2 a3 a4 a5 a6 a7 a8 a9 h body :=
  ⟨fun l h => match l with | [a0, a1, a2, a3, a4, a5, a6, a7, a8, a9] => I a0 a1 a2 a3 a4 a5 a6 a7 a8 a9 h | _ => False, fun l h => match l with | [a0, a1, a2, a3, a4, a5, a6, a7, a8, a9] => μ a0 a1 a2 a3 a4 a5 a6 a7 a8 a9 h | _ => 0, h₀, fun h a0 a1 a2 a3 a4 a5 a6 a7 a8 a9 hi => hr a0 a1 a2 a3 a4 a5 a6 a7 a8 a9 h hi⟩
def Join11 (m : (Value → Value → Value → Value → Value → Value → Value → Value → Value → Value → Value → Heap → Prop) → Prop) (k : Value → Value → Value → Value → Value → Value → Value → Value → Value → Value → Value → Heap → Prop) : Prop := ∃ J : List Value → Heap → Prop, m (fun a0 a1 a2 a3 a4 a5 a6 a7 a8 a9 a10 h => J [a0, a1, a2, a3, a4, a5, a6, a7, a8, a9, a10] h) ∧ ∀ h a0 a1 a2 a3 a4 a5 a6 a7 a8 a9 a10, J [a0, a1, a2, a3, a4, a5, a6, a7, a8, a9, a10] h → k a0 a1 a2 a3 a4 a5 a6 a7 a8 a9 a10 h
theorem Join11.intro {m : (Value → Value → Value → Value → Value → Value → Value → Value → Value → Value → Value → Heap → Prop) → Prop} {k : Value → Value → Value → Value → Value → Value → Value → Value → Value → Value → Value → Heap → Prop} (J : Value → Value → Value → Value → Value → Value → Value → Value → Value → Value → Value → Heap → Prop) (hm : m J) (hk : ∀ a0 a1 a2 a3 a4 a5 a6 a7 a8 a9 a10 h, J a0 a1 a2 a3 a4 a5 a6 a7 a8 a9 a10 h → k a0 a1 a2 a3 a4 a5 a6 a7 a8 a9 a10 h) : Join11 m k :=
  ⟨fun l h => match l with | [a0, a1, a2, a3, a4, a5, a6, a7, a8, a9, a10] => J a0 a1 a2 a3 a4 a5 a6 a7 a8 a9 a10 h | _ => False, hm, fun h a0 a1 a2 a3 a4 a5 a6 a7 a8 a9 a10 hj => hk a0 a1 a2 a3 a4 a5 a6 a7 a8 a9 a10 h hj⟩
theorem Join11.direct {m : (Value → Value → Value → Value → Value → Value → Value → Value → Value → Value → Value → Heap → Prop) → Prop} {k : Value → Value → Value → Value → Value → Value → Value → Value → Value → Value → Value → Heap → Prop} (hm : m k) : Join11 m k := Join11.intro k hm (fun _ _ _ _ _ _ _ _ _ _ _ _ h => h)
def Loop11 (a0 a1 a2 a3 a4 a5 a6 a7 a8 a9 a10 : Value) (h : Heap) (body : (Value → Value → Value → Value → Value → Value → Value → Value → Value → Value → Value → Heap → Prop) → Value → Value → Value → Value → Value → Value → Value → Value → Value → Value → Value → Heap → Prop) : Prop := ∃ (I : List Value → Heap → Prop) (μ : List Value → Heap → Nat), I [a0, a1, a2, a3, a4, a5, a6, a7, a8, a9, a10] h ∧ ∀ h' b0 b1 b2 b3 b4 b5 b6 b7 b8 b9 b10, I [b0, b1, b2, b3, b4, b5, b6, b7, b8, b9, b10] h' → body (fun c0 c1 c2 c3 c4 c5 c6 c7 c8 c9 c10 h'' => I [c0, c1, c2, c3, c4, c5, c6, c7, c8, c9, c10] h'' ∧ μ [c0, c1, c2, c3, c4, c5, c6, c7, c8, c9, c10] h'' < μ [b0, b1, b2, b3, b4, b5, b6, b7, b8, b9, b10] h') b0 b1 b2 b3 b4 b5 b6 b7 b8 b9 b10 h'
theorem Loop11.intro {a0 a1 a2 a3 a4 a5 a6 a7 a8 a9 a10 : Value} {h : Heap} {body : (Value → Value → Value → Value → Value → Value → Value → Value → Value → Value → Value → Heap → Prop) → Value → Value → Value → Value → Value → Value → Value → Value → Value → Value → Value → Heap → Prop} (I : Value → Value → Value → Value → Value → Value → Value → Value → Value → Value → Value → Heap → Prop) (μ : Value → Value → Value → Value → Value → Value → Value → Value → Value → Value → Value → Heap → Nat) (h₀ : I a0 a1 a2 a3 a4 a5 a6 a7 a8 a9 a10 h) (hr : ∀ a0 a1 a2 a3 a4 a5 a6 a7 a8 a9 a10 h, I a0 a1 a2 a3 a4 a5 a6 a7 a8 a9 a10 h → body (fun b0 b1 b2 b3 b4 b5 b6 b7 b8 b9 b10 h' => I b0 b1 b2 b3 b4 b5 b6 b7 b8 b9 b10 h' ∧ μ b0 b1 b2 b3 b4 b5 b6 b7 b8 b9 b10 h' < μ a0 a1 a2 a3 a4 a5 a6 a7 a8 a9 a10 h) a0 a1 a2 a3 a4 a5 a6 a7 a8 a9 a10 h) : Loop11 a0 a1 a2 a3 a4 a5 a6 a7 a8 a9 a10 h body :=
  ⟨fun l h => match l with | [a0, a1, a2, a3, a4, a5, a6, a7, a8, a9, a10] => I a0 a1 a2 a3 a4 a5 a6 a7 a8 a9 a10 h | _ => False, fun l h => match l with | [a0, a1, a2, a3, a4, a5, a6, a7, a8, a9, a10] => μ a0 a1 a2 a3 a4 a5 a6 a7 a8 a9 a10 h | _ => 0, h₀, fun h a0 a1 a2 a3 a4 a5 a6 a7 a8 a9 a10 hi => hr a0 a1 a2 a3 a4 a5 a6 a7 a8 a9 a10 h hi⟩
def Join12 (m : (Value → Value → Value → Value → Value → Value → Value → Value → Value → Value → Value → Value → Heap → Prop) → Prop) (k : Value → Value → Value → Value → Value → Value → Value → Value → Value → Value → Value → Value → Heap → Prop) : Prop := ∃ J : List Value → Heap → Prop, m (fun a0 a1 a2 a3 a4 a5 a6 a7 a8 a9 a10 a11 h => J [a0, a1, a2, a3, a4, a5, a6, a7, a8, a9, a10, a11] h) ∧ ∀ h a0 a1 a2 a3 a4 a5 a6 a7 a8 a9 a10 a11, J [a0, a1, a2, a3, a4, a5, a6, a7, a8, a9, a10, a11] h → k a0 a1 a2 a3 a4 a5 a6 a7 a8 a9 a10 a11 h
theorem Join12.intro {m : (Value → Value → Value → Value → Value → Value → Value → Value → Value → Value → Value → Value → Heap → Prop) → Prop} {k : Value → Value → Value → Value → Value → Value → Value → Value → Value → Value → Value → Value → Heap → Prop} (J : Value → Value → Value → Value → Value → Value → Value → Value → Value → Value → Value → Value → Heap → Prop) (hm : m J) (hk : ∀ a0 a1 a2 a3 a4 a5 a6 a7 a8 a9 a10 a11 h, J a0 a1 a2 a3 a4 a5 a6 a7 a8 a9 a10 a11 h → k a0 a1 a2 a3 a4 a5 a6 a7 a8 a9 a10 a11 h) : Join12 m k :=
  ⟨fun l h => match l with | [a0, a1, a2, a3, a4, a5, a6, a7, a8, a9, a10, a11] => J a0 a1 a2 a3 a4 a5 a6 a7 a8 a9 a10 a11 h | _ => False, hm, fun h a0 a1 a2 a3 a4 a5 a6 a7 a8 a9 a10 a11 hj => hk a0 a1 a2 a3 a4 a5 a6 a7 a8 a9 a10 a11 h hj⟩
theorem Join12.direct {m : (Value → Value → Value → Value → Value → Value → Value → Value → Value → Value → Value → Value → Heap → Prop) → Prop} {k : Value → Value → Value → Value → Value → Value → Value → Value → Value → Value → Value → Value → Heap → Prop} (hm : m k) : Join12 m k := Join12.intro k hm (fun _ _ _ _ _ _ _ _ _ _ _ _ _ h => h)
def Loop12 (a0 a1 a2 a3 a4 a5 a6 a7 a8 a9 a10 a11 : Value) (h : Heap) (body : (Value → Value → Value → Value → Value → Value → Value → Value → Value → Value → Value → Value → Heap → Prop) → Value → Value → Value → Value → Value → Value → Value → Value → Value → Value → Value → Value → Heap → Prop) : Prop := ∃ (I : List Value → Heap → Prop) (μ : List Value → Heap → Nat), I [a0, a1, a2, a3, a4, a5, a6, a7, a8, a9, a10, a11] h ∧ ∀ h' b0 b1 b2 b3 b4 b5 b6 b7 b8 b9 b10 b11, I [b0, b1, b2, b3, b4, b5, b6, b7, b8, b9, b10, b11] h' → body (fun c0 c1 c2 c3 c4 c5 c6 c7 c8 c9 c10 c11 h'' => I [c0, c1, c2, c3, c4, c5, c6, c7, c8, c9, c10, c11] h'' ∧ μ [c0, c1, c2, c3, c4, c5, c6, c7, c8, c9, c10, c11] h'' < μ [b0, b1, b2, b3, b4, b5, b6, b7, b8, b9, b10, b11] h') b0 b1 b2 b3 b4 b5 b6 b7 b8 b9 b10 b11 h'
theorem Loop12.intro {a0 a1 a2 a3 a4 a5 a6 a7 a8 a9 a10 a11 : Value} {h : Heap} {body : (Value → Value → Value → Value → Value → Value → Value → Value → Value → Value → Value → Value → Heap → Prop) → Value → Value → Value → Value → Value → Value → Value → Value → Value → Value → Value → Value → Heap → Prop} (I : Value → Value → Value → Value → Value → Value → Value → Value → Value → Value → Value → Value → Heap → Prop) (μ : Value → Value → Value → Value → Value → Value → Value → Value → Value → Value → Value → Value → Heap → Nat) (h₀ : I a0 a1 a2 a3 a4 a5 a6 a7 a8 a9 a10 a11 h) (hr : ∀ a0 a1 a2 a3 a4 a5 a6 a7 a8 a9 a10 a11 h, I a0 a1 a2 a3 a4 a5 a6 a7 a8 a9 a10 a11 h → body (fun b0 b1 b2 b3 b4 b5 b6 b7 b8 b9 b10 b11 h' => I b0 b1 b2 b3 b4 b5 b6 b7 b8 b9 b10 b11 h' ∧ μ b0 b1 b2 b3 b4 b5 b6 b7 b8 b9 b10 b11 h' < μ a0 a1 a2 a3 a4 a5 a6 a7 a8 a9 a10 a11 h) a0 a1 a2 a3 a4 a5 a6 a7 a8 a9 a10 a11 h) : Loop12 a0 a1 a2 a3 a4 a5 a6 a7 a8 a9 a10 a11 h body :=
  ⟨fun l h => match l with | [a0, a1, a2, a3, a4, a5, a6, a7, a8, a9, a10, a11] => I a0 a1 a2 a3 a4 a5 a6 a7 a8 a9 a10 a11 h | _ => False, fun l h => match l with | [a0, a1, a2, a3, a4, a5, a6, a7, a8, a9, a10, a11] => μ a0 a1 a2 a3 a4 a5 a6 a7 a8 a9 a10 a11 h | _ => 0, h₀, fun h a0 a1 a2 a3 a4 a5 a6 a7 a8 a9 a10 a11 hi => hr a0 a1 a2 a3 a4 a5 a6 a7 a8 a9 a10 a11 h hi⟩

end Go.Vcg
