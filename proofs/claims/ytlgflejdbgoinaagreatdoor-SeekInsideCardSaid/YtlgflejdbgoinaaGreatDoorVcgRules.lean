/- Rules for the printed texts: each operation at the shapes at which it is met. No condition. -/
import Derived.Maps.AppendAt
import Derived.Test.YtlgflejdbgoinaaGreatDoorVcg
import Derived.Laws.Small
import Derived.Laws.Strings
import Derived.IntWalk
import Derived.Laws.BytesArg
import Derived.Laws.AppendOwn
set_option linter.unusedVariables false
set_option linter.unusedSimpArgs false
namespace Go.Vcg

def someWorld (h : Heap) : World := { (default : World) with heap := h }
theorem reads_of {P : Program} {s : Sem Value} {h : Heap} {k : Value → Prop} {v : Value} (hr : ∀ w : World, w.heap = h → s.run P w = .ok v w) : Reads P s h k = k v := by
  refine propext ⟨fun ⟨u, hu, hk⟩ => ?_, fun hk => ⟨v, hr, hk⟩⟩
  have e1 := hu (someWorld h) rfl
  have e2 := hr (someWorld h) rfl
  rw [e1] at e2
  cases e2
  exact hk
theorem reads_pure {P : Program} {s : Sem Value} {h : Heap} {k : Value → Prop} {v : Value} (hr : ∀ w : World, s.run P w = .ok v w) : Reads P s h k = k v := reads_of fun w _ => hr w
theorem readsS_of {P : Program} {s : Sem Value} {S : Heap → Prop} {k : Value → Prop} {v : Value} (hr : ∀ w : World, S w.heap → s.run P w = .ok v w) (hk : k v) : ReadsS P s S k := ⟨v, hr, hk⟩
theorem readsS_eq {P : Program} {s : Sem Value} {S : Heap → Prop} {k : Value → Prop} {v : Value} (hr : ∀ w : World, s.run P w = .ok v w) {h : Heap} (hS : S h) : ReadsS P s S k = k v := by
  refine propext ⟨fun ⟨u, hu, hk⟩ => ?_, fun hk => ⟨v, fun w _ => hr w, hk⟩⟩
  have e1 := hu (someWorld h) hS
  rw [hr] at e1
  cases e1
  exact hk

/-! ### what simp does not go into -/
theorem Reads.congr {P : Program} {s s' : Sem Value} {h : Heap} {k : Value → Prop} (e : s = s') : Reads P s h k = Reads P s' h k := by rw [e]
theorem ReadsS.congr {P : Program} {s s' : Sem Value} {S : Heap → Prop} {k : Value → Prop} (e : s = s') : ReadsS P s S k = ReadsS P s' S k := by rw [e]
theorem pLoad.congr {P : Program} {t : TypeId} {v v' : Value} {h : Heap} {k : Value → Prop} (e : v = v') : pLoad P t v h k = pLoad P t v' h k := by rw [e]
theorem pLoadS.congr {P : Program} {t : TypeId} {v v' : Value} {S : Heap → Prop} {k : Value → Prop} (e : v = v') : pLoadS P t v S k = pLoadS P t v' S k := by rw [e]
theorem pStore.congr {P : Program} {t : TypeId} {v v' x x' : Value} {h : Heap} {k : Heap → Prop} (e : v = v') (e' : x = x') : pStore P t v x h k = pStore P t v' x' h k := by rw [e, e']
theorem Runs.congr {P : Program} {s s' : Sem Next} {h : Heap} {k : Value → Heap → Prop} {E : List PanicEntry → Heap → Prop} (e : s = s') : Runs P s h k E = Runs P s' h k E := by rw [e]
theorem CallsH.congr {P : Program} {f : FuncId} {a a' : Array Value} {h : Heap} {k : Value → Heap → Prop} {E : List PanicEntry → Heap → Prop} (e : a = a') : CallsH P f a h k E = CallsH P f a' h k E := by rw [e]
theorem bcase.congr {b b' : Bool} {A B : Prop} (e : b = b') : bcase b A B = bcase b' A B := by rw [e]
theorem boolV.congr {v v' : Value} {k : Bool → Prop} (e : v = v') : boolV v k = boolV v' k := by rw [e]
theorem Stable.congr {h : Heap} {m : (Heap → Prop) → Prop} : Stable h m = Stable h m := rfl
theorem pAlloc.congr {P : Program} {t : TypeId} {h : Heap} {k : Value → Heap → Prop} : pAlloc P t h k = pAlloc P t h k := rfl

@[simp] theorem bcase_true {A B : Prop} : bcase true A B = A := rfl
@[simp] theorem bcase_false {A B : Prop} : bcase false A B = B := rfl
@[simp] theorem boolV_bool {b : Bool} {k : Bool → Prop} : boolV (.bool b) k = k b := rfl
theorem bcase_decide {p : Prop} [Decidable p] {A B : Prop} : bcase (decide p) A B = ((p → A) ∧ (¬p → B)) := by
  by_cases h : p <;> simp [h]

theorem hcell_mk {h : Heap} {b o : Nat} : hcell h ⟨b, o, none⟩ = (match h[b]? with | some (.cells c _ _) => c[o]? | _ => none) := by
  unfold hcell; split <;> simp_all
theorem hcell_of {h : Heap} {b o : Nat} {cs : Array Value} {t : TypeId} {fz : Nat × Nat} (hb : h[b]? = some (.cells cs t fz)) : hcell h ⟨b, o, none⟩ = cs[o]? := by
  rw [hcell_mk, hb]

/-! ### pure operations -/
section
variable {P : Program} {h : Heap} {k : Value → Prop}

theorem reads_nil {a : Addr} : Reads P (nilS (.pointer (some a))) h k = k (.pointer (some a)) := reads_pure fun _ => rfl
theorem reads_pick {b : Bool} {x y : Value} : Reads P (pickS (.bool b) x y) h k = k (if b then x else y) := reads_pure fun _ => by simp [pickS, asBool]
theorem reads_not {b : Bool} : Reads P (Op.unary .not (.bool b)) h k = k (.bool (!b)) := reads_pure fun _ => rfl
theorem reads_xor {K : IntKind} {n : Int} : Reads P (Op.unary .xor (.int K n)) h k = k (.int K (K.wrap (BitVec.ofInt K.bits n ^^^ BitVec.ofInt K.bits (if K.signed then -1 else K.max)).toNat)) := reads_pure fun _ => by simp [Op.unary, Op.intBits, Nat.xor_comm]
theorem reads_extract {vs : Array Value} {i : Nat} {v : Value} (hv : vs[i]? = some v) : Reads P (Instr.extract (.tuple vs) i) h k = k v := reads_pure fun _ => by simp [Instr.extract, hv]
theorem reads_ext0 {l : List Value} {v : Value} : Reads P (Instr.extract (.tuple (v :: l).toArray) 0) h k = k v := reads_pure fun _ => rfl
theorem reads_ext1 {l : List Value} {u v : Value} : Reads P (Instr.extract (.tuple (u :: v :: l).toArray) 1) h k = k v := reads_pure fun _ => rfl
theorem reads_ext2 {l : List Value} {t u v : Value} : Reads P (Instr.extract (.tuple (t :: u :: v :: l).toArray) 2) h k = k v := reads_pure fun _ => rfl
theorem reads_mkfunc {fn : Fn} {a b : Array Value} : Reads P (Instr.makeFunc fn a b) h k = k (.func fn a b) := reads_pure fun _ => rfl

theorem reads_add {t : TypeId} {c : Bool} {K : IntKind} {a b : Int} : Reads P (binS .add t c (.int K a) (.int K b)) h k = k (.int K (K.wrap (a + b))) := reads_pure fun _ => by simp [binS, guardS, binOp, Op.intArith]
theorem reads_sub {t : TypeId} {c : Bool} {K : IntKind} {a b : Int} : Reads P (binS .sub t c (.int K a) (.int K b)) h k = k (.int K (K.wrap (a - b))) := reads_pure fun _ => by simp [binS, guardS, binOp, Op.intArith]
theorem reads_mul {t : TypeId} {c : Bool} {K : IntKind} {a b : Int} : Reads P (binS .mul t c (.int K a) (.int K b)) h k = k (.int K (K.wrap (a * b))) := reads_pure fun _ => by simp [binS, guardS, binOp, Op.intArith]
theorem reads_quo {t : TypeId} {c : Bool} {K : IntKind} {a b : Int} (hb : b ≠ 0) : Reads P (binS .quo t c (.int K a) (.int K b)) h k = k (.int K (K.wrap (a.tdiv b))) := reads_pure fun _ => by simp [binS, guardS, binOp, Op.intDiv, hb]
theorem reads_rem {t : TypeId} {c : Bool} {K : IntKind} {a b : Int} (hb : b ≠ 0) : Reads P (binS .rem t c (.int K a) (.int K b)) h k = k (.int K (a.tmod b)) := reads_pure fun _ => by simp [binS, guardS, binOp, Op.intDiv, hb]
theorem reads_and {t : TypeId} {c : Bool} {K : IntKind} {a b : Int} : Reads P (binS .and t c (.int K a) (.int K b)) h k = k (.int K (K.wrap (BitVec.ofInt K.bits a &&& BitVec.ofInt K.bits b).toNat)) := reads_pure fun _ => by simp [binS, guardS, binOp, Op.intBits]
theorem reads_or {t : TypeId} {c : Bool} {K : IntKind} {a b : Int} : Reads P (binS .or t c (.int K a) (.int K b)) h k = k (.int K (K.wrap (BitVec.ofInt K.bits a ||| BitVec.ofInt K.bits b).toNat)) := reads_pure fun _ => by simp [binS, guardS, binOp, Op.intBits]
theorem reads_shl {t : TypeId} {c : Bool} {K K' : IntKind} {a b : Int} (hb : ¬ b < 0) : Reads P (binS .shl t c (.int K a) (.int K' b)) h k = k (.int K (K.wrap (a * 2 ^ (min b.toNat K.bits)))) := reads_pure fun _ => by simp [binS, guardS, binOp, Op.shift, hb]
theorem reads_shr {t : TypeId} {c : Bool} {K K' : IntKind} {a b : Int} (hb : ¬ b < 0) : Reads P (binS .shr t c (.int K a) (.int K' b)) h k = k (.int K (a.fdiv (2 ^ (min b.toNat K.bits)))) := reads_pure fun _ => by simp [binS, guardS, binOp, Op.shift, hb]
theorem reads_lt {t : TypeId} {c : Bool} {K : IntKind} {a b : Int} : Reads P (binS .lss t c (.int K a) (.int K b)) h k = k (.bool (decide (a < b))) := reads_pure fun _ => by simp [binS, guardS, binOp, Op.intCmp]
theorem reads_le {t : TypeId} {c : Bool} {K : IntKind} {a b : Int} : Reads P (binS .leq t c (.int K a) (.int K b)) h k = k (.bool (decide (a ≤ b))) := reads_pure fun _ => by simp [binS, guardS, binOp, Op.intCmp]
theorem reads_gt {t : TypeId} {c : Bool} {K : IntKind} {a b : Int} : Reads P (binS .gtr t c (.int K a) (.int K b)) h k = k (.bool (decide (b < a))) := reads_pure fun _ => by simp [binS, guardS, binOp, Op.intCmp]
theorem reads_ge {t : TypeId} {c : Bool} {K : IntKind} {a b : Int} : Reads P (binS .geq t c (.int K a) (.int K b)) h k = k (.bool (decide (b ≤ a))) := reads_pure fun _ => by simp [binS, guardS, binOp, Op.intCmp]
theorem reads_eq {t : TypeId} {c : Bool} {K : IntKind} {a b : Int} : Reads P (binS .eql t c (.int K a) (.int K b)) h k = k (.bool (decide (a = b))) := reads_pure fun _ => by
  have : (a == b) = decide (a = b) := rfl
  simp [binS, guardS, binOp, Op.intCmp, this]
theorem reads_ne {t : TypeId} {c : Bool} {K : IntKind} {a b : Int} : Reads P (binS .neq t c (.int K a) (.int K b)) h k = k (.bool (!decide (a = b))) := reads_pure fun _ => by
  have : (a != b) = !decide (a = b) := rfl
  simp [binS, guardS, binOp, Op.intCmp, this]

/-! ### strings -/
theorem str_inj {a b : List UInt8} : str a = str b ↔ a = b := by
  unfold str
  constructor
  · intro h; injection h with h; injection h with h; exact congrArg Array.toList h
  · rintro rfl; rfl
theorem str_of (s : ByteArray) : Value.string s = str s.data.toList := by unfold str; simp
theorem str_beq (a b : List UInt8) : ((⟨a.toArray⟩ : ByteArray).toList == (⟨b.toArray⟩ : ByteArray).toList) = decide (a = b) := by
  rw [ByteArray.toList_mk, ByteArray.toList_mk]
  by_cases h : a = b <;> simp [h]
theorem reads_seq {t : TypeId} {c : Bool} {a b : List UInt8} : Reads P (binS .eql t c (str a) (str b)) h k = k (.bool (decide (a = b))) := reads_pure fun _ => by
  simp only [binS, guardS, binOp, Op.stringOp, str, str_beq]; simp
theorem reads_sne {t : TypeId} {c : Bool} {a b : List UInt8} : Reads P (binS .neq t c (str a) (str b)) h k = k (.bool (!decide (a = b))) := reads_pure fun _ => by
  simp only [binS, guardS, binOp, Op.stringOp, str, str_beq]; simp
theorem reads_sadd {t : TypeId} {c : Bool} {a b : List UInt8} (hl : a.length + b.length ≤ 9223372036854775807) : Reads P (binS .add t c (str a) (str b)) h k = k (str (a ++ b)) := reads_pure fun _ => by
  have hm : IntKind.i64.max = 9223372036854775807 := by decide
  have e : (⟨a.toArray⟩ ++ ⟨b.toArray⟩ : ByteArray) = ⟨(a ++ b).toArray⟩ := by
    apply ByteArray.ext; simp
  have hs : ¬ (((⟨a.toArray⟩ : ByteArray).size + (⟨b.toArray⟩ : ByteArray).size : Nat) : Int) > IntKind.i64.max := by
    rw [hm]; simp only [ByteArray.size, List.size_toArray]; omega
  simp only [binS, guardS, binOp, Op.stringOp, str, hs, if_false, e]; simp
theorem reads_slen {t r : TypeId} {a : List UInt8} (ht : P.underlying t = some .string) : Reads P (builtinS .len #[t] r #[str a]) h k = k (.int .i64 a.length) := reads_pure fun _ => by
  have hsz : (⟨a.toArray⟩ : ByteArray).size = a.length := by simp [ByteArray.size]
  simp [builtinS, Builtin.len_, str, Go.underlying, program, Sem.run, ht, goInt, hsz]
theorem reads_sindex {t : TypeId} {a : List UInt8} {i : Nat} (ht : P.underlying t = some .string) (hi : i < a.length) : Reads P (Instr.index t (str a) (.int .i64 i)) h k = k (.int .u8 a[i].toNat) := reads_pure fun _ => by
  have h1 : (⟨a.toArray⟩ : ByteArray)[i]? = some a[i] := by
    rw [getElem?_pos (⟨a.toArray⟩ : ByteArray) i (by simpa [ByteArray.size] using hi)]; rfl
  simp [Instr.index, asIntOf, str, Go.underlying, program, Sem.run, ht, h1]

/-! ### slices of bytes -/
def BytesAt (h : Heap) (a : Addr) (l : List UInt8) : Prop := ∀ i (hi : i < l.length), hcell h ⟨a.block, a.off + i, none⟩ = some (.int .u8 l[i].toNat)
/-- a slice of bytes that reads as l -/
def IsBytes (h : Heap) (v : Value) (l : List UInt8) : Prop :=
  (v = .slice none 0 0 ∧ l = []) ∨ ∃ b o c, v = .slice (some ⟨b, o, none⟩) l.length c ∧ l.length ≤ c ∧ BytesAt h ⟨b, o, none⟩ l

theorem addr_add (b o n : Nat) : (⟨b, o, none⟩ : Addr).add n = ⟨b, o + n, none⟩ := by
  unfold Addr.add; split <;> simp_all

theorem IsBytes.frame {h h' : Heap} {v : Value} {l : List UInt8} (hb : IsBytes h v l) (hk : ∀ b o c, v = .slice (some ⟨b, o, none⟩) l.length c → h'[b]? = h[b]?) : IsBytes h' v l := by
  rcases hb with hb | ⟨b, o, c, hv, hc, hat⟩
  · exact .inl hb
  · refine .inr ⟨b, o, c, hv, hc, fun i hi => ?_⟩
    have e := hat i hi
    unfold hcell at e ⊢
    rw [hk b o c hv]
    exact e
theorem reads_blen {t r e : TypeId} {v : Value} {l : List UInt8} (hb : IsBytes h v l) (ht : P.underlying t = some (.slice e)) : Reads P (builtinS .len #[t] r #[v]) h k = k (.int .i64 l.length) := by
  rcases hb with ⟨rfl, rfl⟩ | ⟨b, o, c, rfl, _, _⟩
  · exact reads_pure fun _ => by simp [builtinS, Builtin.len_, Go.underlying, program, Sem.run, ht, goInt]
  · exact reads_pure fun _ => by simp [builtinS, Builtin.len_, Go.underlying, program, Sem.run, ht, goInt]
theorem reads_bslice {t e : TypeId} {v : Value} {l : List UInt8} {i j : Nat} (hb : IsBytes h v l) (ht : P.underlying t = some (.slice e)) (hs : sizeT P e = some 1) (hij : i ≤ j) (hj : j ≤ l.length)
    (hk : ∀ u, IsBytes h u ((l.take j).drop i) → k u) : Reads P (Instr.sliceAt t v (some (.int .i64 i)) (some (.int .i64 j)) none) h k := by
  have hsz : ∀ w : World, (sizeOf e).run P w = .ok 1 w := by
    intro w
    unfold sizeT at hs
    split at hs
    · rename_i info hi
      simp only [Option.some.injEq] at hs
      simp [sizeOf, typeInfo, program, Sem.run, hi, hs]
    · cases hs
  rcases hb with ⟨rfl, rfl⟩ | ⟨b, o, c, rfl, hc, hat⟩
  · have : i = 0 := by simp at hj; omega
    have : j = 0 := by simpa using hj
    subst_vars
    refine ⟨.slice none 0 0, fun w _ => ?_, hk _ (.inl ⟨rfl, by simp⟩)⟩
    simp [Instr.sliceAt, Instr.slice, Instr.sliceBounds, Instr.sliceBound, asIntOf, Go.underlying, program, Sem.run, ht, hsz]
  · refine ⟨.slice (some (if c = i then ⟨b, o, none⟩ else (⟨b, o, none⟩ : Addr).add (i * 1))) (j - i) (c - i), fun w _ => ?_, hk _ ?_⟩
    · have h0 : True := trivial
      have h3 : j ≤ c := by omega
      simp [Instr.sliceAt, Instr.slice, Instr.sliceBounds, Instr.sliceBound, asIntOf, Go.underlying, program, Sem.run, ht, hsz, h3, hij]
      split <;> rfl
    · rw [Nat.mul_one, addr_add]
      by_cases hci : c = i
      · have hlen : ((l.take j).drop i) = [] := by
          apply List.drop_eq_nil_of_le; simp; omega
        rw [if_pos hci, hlen]
        refine .inr ⟨b, o, c - i, by simp; omega, by simp, fun k hk => by simp at hk⟩
      · rw [if_neg hci]
        refine .inr ⟨b, o + i, c - i, by simp; omega, by simp; omega, fun k hk => ?_⟩
        have hk' : i + k < l.length := by simp at hk; omega
        have := hat (i + k) hk'
        rw [← Nat.add_assoc] at this
        simpa using this
theorem idx_load {t u e : TypeId} {v : Value} {l : List UInt8} {i : Nat} (hb : IsBytes h v l) (ht : P.underlying t = some (.slice e)) (hs : sizeT P e = some 1) (hu : aggN P u = some none) (hi : i < l.length)
    (hk : k (.int .u8 l[i].toNat)) : Reads P (Instr.indexAt t v (.int .i64 i)) h fun x => pLoad P u x h k := by
  have hsz : ∀ w : World, (sizeOf e).run P w = .ok 1 w := by
    intro w
    unfold sizeT at hs
    split at hs
    · rename_i info hi
      simp only [Option.some.injEq] at hs
      simp [sizeOf, typeInfo, program, Sem.run, hi, hs]
    · cases hs
  rcases hb with ⟨rfl, rfl⟩ | ⟨b, o, c, rfl, hc, hat⟩
  · simp at hi
  · refine ⟨.pointer (some ⟨b, o + i, none⟩), fun w _ => ?_, ?_⟩
    · skip
      simp [Instr.indexAt, asIntOf, Go.underlying, program, Sem.run, ht, hsz, addr_add]
      intro hle; omega
    · simp only [pLoad, hu]
      exact ⟨_, hat i hi, hk⟩

theorem reads_bstring {t d e : TypeId} {v : Value} {l : List UInt8} (hb : IsBytes h v l) (ht : P.underlying t = some (.slice e)) (he : P.underlying e = some (.int .u8)) (hd : P.underlying d = some .string) :
    Reads P (convert t d v) h k = k (str l) := by
  rcases hb with ⟨rfl, rfl⟩ | ⟨b, o, c, rfl, hc, hat⟩
  · exact reads_pure fun w => run_convert_bytes_nil w t e ht he 0 0 d hd
  · refine reads_of fun w hw => ?_
    subst hw
    have e1 := run_convert_bytes_arg w t e ht he b o l.length c (l.map fun x => (x.toNat : Int)) (by simp) (fun i hi => by
      rw [cell_eq]
      have := hat i hi
      simp only at this
      rw [this]
      simp [List.getD, List.getElem?_eq_getElem hi]) d hd
    rw [e1]
    congr 1
    unfold str strOfNums
    congr 3
    rw [List.map_map]
    have : ((fun n : Int => UInt8.ofNat n.toNat) ∘ fun x : UInt8 => (x.toNat : Int)) = id := by
      funext x; simp
    rw [this, List.map_id]
theorem reads_conv_int {t d : TypeId} {K K' : IntKind} {n : Int} {u : TypeDesc} (ht : P.underlying t = some u) (hd : P.underlying d = some (.int K)) : Reads P (convert t d (.int K' n)) h k = k (.int K (K.wrap n)) := reads_pure fun _ => by
  simp [convert, Go.underlying, program, Sem.run, ht, hd, Conv.intToInt]
theorem reads_mkiface {t : TypeId} {v : Value} {u : TypeDesc} (ht : P.underlying t = some u) (hu : ∀ ms, u ≠ .interface ms) : Reads P (Instr.makeInterface t v) h k = k (.iface t v) := reads_pure fun _ => by
  simp only [Instr.makeInterface, Go.underlying, program, Sem.run_bind, Sem.run, Result.andThen_ok, ht]
  cases u <;> first | rfl | exact absurd rfl (hu _)
end

/-! ### memory that a call makes -/
/-- a slice value owns the cells xs: as World.ownsRow, by the heap -/
def Owns (h : Heap) (base : Nat) (e : TypeId) (size : Nat) (v : Value) (n : Nat) (xs : List Value) : Prop :=
  xs.length = n * size ∧
  ((v = .slice none 0 0 ∧ n = 0) ∨
   ∃ g cap cur, v = .slice (some ⟨g, 0, none⟩) n cap ∧ base ≤ g ∧ h[g]? = some (.cells cur e (0, 0)) ∧ n ≤ cap ∧ cap ≤ maxLen ∧ cur.size = cap * size ∧ cur.toList.take (n * size) = xs)
theorem owns_eq (w : World) (base : Nat) (e : TypeId) (size : Nat) (v : Value) (n : Nat) (xs : List Value) : w.ownsRow base e size v n xs = Owns w.heap base e size v n xs := rfl
theorem Owns.nil (h : Heap) (base : Nat) (e : TypeId) (size : Nat) : Owns h base e size (.slice none 0 0) 0 [] := ⟨by simp, .inl ⟨rfl, rfl⟩⟩

/-- nothing that was there has turned, but for one block -/
structure GrownH (h h' : Heap) (row : Option Nat) : Prop where
  size : h.size ≤ h'.size
  block : ∀ k, k < h.size → some k ≠ row → h'[k]? = h[k]?

theorem runs_append {P : Program} {h : Heap} {K : Value → Heap → Prop} {E : List PanicEntry → Heap → Prop} {t ty e : TypeId} {cs : Array Bool} {i : TypeInfo} {z : Value} {size bytes base : Nat}
    (ht : P.underlying t = some (.slice e)) (hi : P.info? e = some i) (hz : i.zero = some z) (hsize : i.size = size) (hby : i.bytes = bytes) (hzs : z.cells.size = size) (hsz : 0 < size)
    {v : Value} {n : Nat} {xs : List Value} (hown : Owns h base e size v n xs) {a : Addr} {m c : Nat} {news : List Value} (hl : news.length = m * size)
    (hnews : ∀ j u, news[j]? = some u → hcell h (a.add j) = some u) (h1 : ∀ u ∈ news, u.oneCell' = true) (h63 : n + m ≤ maxLen) (hbytes : (n + m) * bytes ≤ 140737488355328) (hbase : base ≤ h.size)
    (hk : ∀ v' h', Owns h' base e size v' (n + m) (xs ++ news) → GrownH h h' v.ownBlock → (v' = .slice none 0 0 ↔ v = .slice none 0 0 ∧ m = 0) → K v' h') :
    Runs P (builtin .append #[t, t] ty cs #[v, .slice (some a) m c]) h K E := by
  intro w hw
  subst hw
  obtain ⟨v', w', hr, ho, hg, hn⟩ := run_append_own (P := P) w base t ty e i z size bytes ht hi hz hsize hby hzs hsz v n xs hown a m c news hl (fun j u hj => hnews j u hj) h1 h63 hbytes hbase
  simp only [builtin, Sem.run_bind, hr, Result.andThen_ok, Sem.run_pure, uponH]
  exact ⟨⟨hg.os, hg.tape, hg.output⟩, hk v' w'.heap ho ⟨hg.size, hg.block⟩ hn⟩

theorem runs_buildSlice1 {P : Program} {h : Heap} {K : Value → Heap → Prop} {E : List PanicEntry → Heap → Prop} {t e : TypeId} {i : TypeInfo} {z x : Value}
    (ht : P.underlying t = some (.slice e)) (hi : P.info? e = some i) (hz : i.zero = some z) (hx : x.cells.size = i.size) (hs0 : 0 < i.size) (hs : i.size ≤ 1000)
    (hk : K (.slice (some ⟨h.size, 0, none⟩) 1 1) (h.push (.cells x.cells e))) : Runs P (vS (Instr.buildSlice t 1 #[(0, x)])) h K E := by
  intro w hw
  subst hw
  have e1 : Instr.fill (fun j => some (j * i.size, i.size)) ((Array.range (1 * i.size)).map (z.cells[· % z.cells.size]!)) [(0, x)] = some x.cells := by
    simp only [Instr.fill, Nat.zero_mul, hx, ne_eq, not_true_eq_false, Array.size_map, Array.size_range, Nat.one_mul, Nat.lt_irrefl, gt_iff_lt, Nat.zero_add, decide_false, Bool.or_self, Bool.false_eq_true, if_false]
    congr 1
    apply Array.ext_getElem?
    intro j
    have key : ∀ (l : List Value) (k : Nat) (A : Array Value), (k + l.length ≤ A.size) → ((l.zipIdx k).foldl (fun cs (p : Value × Nat) => cs.setIfInBounds (0 + p.2) p.1) A)[j]? = if k ≤ j ∧ j < k + l.length then l[j - k]? else A[j]? := by
      intro l
      induction l with
      | nil => intro k A _; simp; intro h1 h2; omega
      | cons y l ih =>
        intro k A hA
        simp only [List.zipIdx_cons, List.foldl_cons, Nat.zero_add]
        have := ih (k + 1) (A.setIfInBounds k y) (by simp at hA ⊢; omega)
        simp only [Nat.zero_add] at this
        rw [this]
        by_cases hj : j = k
        · subst hj
          rw [if_neg (by omega), if_pos (by simp)]
          simp at hA
          simp [show j < A.size by omega]
        · by_cases hj2 : k + 1 ≤ j ∧ j < k + 1 + l.length
          · rw [if_pos hj2, if_pos (by simp; omega)]
            have : j - k = (j - (k + 1)) + 1 := by omega
            rw [this, List.getElem?_cons_succ]
          · rw [if_neg hj2, if_neg (by simp; omega)]
            rw [Array.getElem?_setIfInBounds_ne (Ne.symm hj)]
    have := key x.cells.toList 0 ((Array.range i.size).map (z.cells[· % z.cells.size]!)) (by simp [hx])
    simp only [Nat.zero_add, Nat.zero_le, true_and, Nat.sub_zero, Array.length_toList] at this
    rw [← Array.foldl_toList]
    simp only [Array.toList_zipIdx]
    rw [this]
    by_cases hj : j < x.cells.size
    · rw [if_pos hj]; simp
    · rw [if_neg hj, Array.getElem?_eq_none (by simp; omega), Array.getElem?_eq_none (by omega)]
  have hne : ¬ (1 * i.size = 0) := by omega
  have h24 : ¬ (1 * i.size > 2 ^ 24) := by omega
  have hr : (Instr.buildSlice t 1 #[(0, x)]).run P w = .ok (.slice (some ⟨w.heap.size, 0, none⟩) 1 1) { w with heap := w.heap.push (.cells x.cells e) } := by
    simp only [Instr.buildSlice, Go.underlying, program, sizeOf, typeInfo, zeroValue, Sem.run_bind, Sem.run, Result.andThen_ok, ht, hi, hz, Sem.run_pure, hne, h24, if_false, Sem.run_ite, e1]
    simp [newRow, newObj, Sem.run]
  simp only [vS, Sem.run_bind, hr, Result.andThen_ok, Sem.run_pure, uponH]
  exact ⟨⟨rfl, rfl, rfl⟩, hk⟩

end Go.Vcg
namespace Go.Vcg
theorem wrapN (a : Int) (n : Nat) (e : a = n) (h : n ≤ 4611686018427387904) : IntKind.i64.wrap a = n := by
  rw [IntWalk.i64_in _ (by omega), e]
theorem wrap_nn (a b : Nat) (h : a + b ≤ 4611686018427387904) : IntKind.i64.wrap ((a : Int) + (b : Int)) = ((a + b : Nat) : Int) := wrapN _ _ (by omega) h
theorem wrap_n1 (a : Nat) (h : a + 1 ≤ 4611686018427387904) : IntKind.i64.wrap ((a : Int) + 1) = ((a + 1 : Nat) : Int) := wrapN _ _ (by omega) h
theorem wrap_n2 (a : Nat) (h : a + 2 ≤ 4611686018427387904) : IntKind.i64.wrap ((a : Int) + 2) = ((a + 2 : Nat) : Int) := wrapN _ _ (by omega) h
theorem wrap_n3 (a : Nat) (h : a + 3 ≤ 4611686018427387904) : IntKind.i64.wrap ((a : Int) + 3) = ((a + 3 : Nat) : Int) := wrapN _ _ (by omega) h
theorem wrap_s1 (a : Nat) (h0 : 1 ≤ a) (h : a ≤ 4611686018427387904) : IntKind.i64.wrap ((a : Int) - 1) = ((a - 1 : Nat) : Int) := wrapN _ _ (by omega) (by omega)
theorem dec_nn_le (a b : Nat) : decide ((a : Int) ≤ (b : Int)) = decide (a ≤ b) := by simp
theorem dec_nn_lt (a b : Nat) : decide ((a : Int) < (b : Int)) = decide (a < b) := by simp
theorem dec_nn_eq (a b : Nat) : decide ((a : Int) = (b : Int)) = decide (a = b) := by
  by_cases h : a = b
  · simp [h]
  · rw [decide_eq_false h, decide_eq_false (by omega)]
theorem dec_u8_eq (a b : UInt8) : decide ((a.toNat : Int) = (b.toNat : Int)) = decide (a = b) := by
  by_cases h : a = b
  · simp [h]
  · have : ¬ a.toNat = b.toNat := fun e => h (UInt8.toNat_inj.1 e)
    rw [decide_eq_false h, decide_eq_false (by omega)]
theorem pre_drop {l s : List UInt8} {p : Nat} (h : p + s.length ≤ l.length) : s.isPrefixOf (l.drop p) = decide ((l.take (p + s.length)).drop p = s) := by
  rw [List.drop_take, Nat.add_sub_cancel_left]
  by_cases e : List.take s.length (List.drop p l) = s
  · rw [decide_eq_true e]
    rw [List.isPrefixOf_iff_prefix]
    exact ⟨(l.drop p).drop s.length, by conv => lhs; lhs; rw [← e]
                                        exact List.take_append_drop _ _⟩
  · rw [decide_eq_false e]
    rw [Bool.eq_false_iff, ne_eq, List.isPrefixOf_iff_prefix]
    rintro ⟨u, hu⟩
    exact e (by rw [← hu]; simp)
theorem pre_long {l s : List UInt8} {p : Nat} (h : ¬ p + s.length ≤ l.length) (hp : p ≤ l.length) : s.isPrefixOf (l.drop p) = false := by
  rw [Bool.eq_false_iff, ne_eq, List.isPrefixOf_iff_prefix]
  rintro ⟨u, hu⟩
  have := congrArg List.length hu
  simp at this
  omega

/-! ### stores -/
/-- one block has turned -/
structure Upd (h h' : Heap) (b : Nat) (o : Obj) : Prop where
  same : h'[b]? = some o
  size : h'.size = h.size
  other : ∀ k, k ≠ b → h'[k]? = h[k]?

theorem hset_upd {h : Heap} {b off : Nat} {cs : Array Value} {t : TypeId} {fz : Nat × Nat} {v : Value} (hb : h[b]? = some (.cells cs t fz)) :
    Upd h (hset h ⟨b, off, none⟩ v) b (.cells (cs.setIfInBounds off v) t fz) := by
  have hlt : b < h.size := (Array.getElem?_eq_some_iff.1 hb).1
  have hv : h[b] = .cells cs t fz := (Array.getElem?_eq_some_iff.1 hb).2
  unfold hset
  refine ⟨?_, by simp, fun k hk => ?_⟩
  · simp only [Array.getElem?_modify, if_true, hb, Option.map_some]
    rfl
  · rw [Array.getElem?_modify, if_neg (Ne.symm hk)]

theorem splice_step (L : List Value) (k : Nat) (v : Value) (r : List Value) (hk : k < L.length) :
    (L.set k v).take (k + 1) ++ r ++ (L.set k v).drop (k + 1 + r.length) = L.take k ++ (v :: r) ++ L.drop (k + (r.length + 1)) := by
  rw [List.set_eq_take_append_cons_drop, if_pos hk]
  have h1 : (L.take k).length = k := by simp; omega
  have e1 : (L.take k ++ v :: L.drop (k + 1)).take (k + 1) = L.take k ++ [v] := by
    rw [List.take_append, h1, List.take_of_length_le (by omega)]
    simp
  have e2 : (L.take k ++ v :: L.drop (k + 1)).drop (k + 1 + r.length) = L.drop (k + (r.length + 1)) := by
    rw [List.drop_append, h1, List.drop_eq_nil_of_le (by omega), show k + 1 + r.length - k = r.length + 1 by omega, List.drop_succ_cons, List.drop_drop, List.nil_append]
    congr 1; omega
  rw [e1, e2]
  simp

theorem hputN_upd {b : Nat} {t : TypeId} : ∀ (vs : List Value) (i : Nat) (h : Heap) (cs : Array Value) (off : Nat), h[b]? = some (.cells cs t (0, 0)) → off + i + vs.length ≤ cs.size → (∀ v ∈ vs, flat v = true) →
    ∃ h', hputN h ⟨b, off, none⟩ i vs = some h' ∧ Upd h h' b (.cells (cs.toList.take (off + i) ++ vs ++ cs.toList.drop (off + i + vs.length)).toArray t (0, 0))
  | [], i, h, cs, off, hb, _, _ => ⟨h, rfl, by simpa using hb, rfl, fun _ _ => rfl⟩
  | v :: r, i, h, cs, off, hb, hl, hf => by
    simp only [List.length_cons] at hl
    have hfv := hf v (List.mem_cons_self ..)
    have hu := hset_upd (off := off + i) (v := v) hb
    have h1 : hput1 h ((⟨b, off, none⟩ : Addr).add i) v = some (hset h ⟨b, off + i, none⟩ v) := by
      rw [addr_add]
      have hc : hcell h ⟨b, off + i, none⟩ = some cs[off + i] := by rw [hcell_of hb, Array.getElem?_eq_getElem (by omega)]
      have hz : hfrozen h ⟨b, off + i, none⟩ = false := by simp [hfrozen, hb]
      unfold hput1
      rw [hc]
      simp [hfv, hz]
    obtain ⟨h', e1, e2⟩ := hputN_upd r (i + 1) _ (cs.setIfInBounds (off + i) v) off hu.same (by simp; omega) (fun x hx => hf x (List.mem_cons_of_mem _ hx))
    refine ⟨h', by simp only [hputN, h1, e1], ?_⟩
    refine ⟨?_, e2.size.trans hu.size, fun k hk => (e2.other k hk).trans (hu.other k hk)⟩
    rw [e2.same]
    congr 3
    simp only [Array.toList_setIfInBounds, List.length_cons]
    exact splice_step cs.toList (off + i) v r (by simp; omega)

theorem store1 {P : Program} {T t : TypeId} {h : Heap} {b off : Nat} {cs : Array Value} {x : Value} {K : Heap → Prop} (hb : h[b]? = some (.cells cs t (0, 0))) (hT : sizeT P T = some 1) (hx : flat x = true)
    (ho : off < cs.size) (hk : ∀ h', Upd h h' b (.cells (cs.setIfInBounds off x) t (0, 0)) → K h') : pStore P T (.pointer (some ⟨b, off, none⟩)) x h K := by
  have hc : x.cells = #[x] := by cases x <;> first | rfl | simp [flat] at hx
  unfold pStore
  refine ⟨by simp [hT, hc], ?_⟩
  rw [hc]
  have hcell : hcell h ⟨b, off, none⟩ = some cs[off] := by rw [hcell_of hb, Array.getElem?_eq_getElem ho]
  have hz : hfrozen h ⟨b, off, none⟩ = false := by simp [hfrozen, hb]
  simp only [hputN, addr_add, Nat.add_zero, hput1, hcell, hx, hz, Bool.not_false, Bool.and_self, need]
  exact hk _ (hset_upd hb)

theorem storeFull {P : Program} {T t : TypeId} {h : Heap} {b : Nat} {cs xs : Array Value} {K : Heap → Prop} (hb : h[b]? = some (.cells cs t (0, 0))) (hT : sizeT P T = some xs.size) (hs : cs.size = xs.size)
    (hx : ∀ v ∈ xs.toList, flat v = true) (hk : ∀ h', Upd h h' b (.cells xs t (0, 0)) → K h') : pStore P T (.pointer (some ⟨b, 0, none⟩)) (.agg xs) h K := by
  unfold pStore
  refine ⟨hT, ?_⟩
  obtain ⟨h', e1, e2⟩ := hputN_upd (t := t) xs.toList 0 h cs 0 hb (by simp; omega) hx
  simp only [Value.cells] at *
  rw [e1]
  refine hk h' ?_
  have : cs.toList.drop (0 + 0 + xs.toList.length) = [] := List.drop_eq_nil_of_le (by simp; omega)
  rw [this] at e2
  simpa using e2

/-- what is known of a type -/
def InfoT (P : Program) (e : TypeId) (z : Value) (n m : Nat) : Prop := ∃ i, P.info? e = some i ∧ i.zero = some z ∧ i.size = n ∧ i.bytes = m
theorem info_of {P : Program} {e : TypeId} {z : Value} {n m : Nat} (h : (P.info? e).map (fun i => (i.zero, i.size, i.bytes)) = some (some z, n, m)) : InfoT P e z n m := by
  cases hi : P.info? e with
  | none => rw [hi] at h; cases h
  | some i =>
    rw [hi] at h
    simp only [Option.map_some, Option.some.injEq, Prod.mk.injEq] at h
    exact ⟨i, hi, h.1, h.2.1, h.2.2⟩
theorem runs_append' {P : Program} {h : Heap} {K : Value → Heap → Prop} {E : List PanicEntry → Heap → Prop} {t ty e : TypeId} {cs : Array Bool} {z : Value} {size bytes base : Nat}
    (hi : InfoT P e z size bytes) (ht : P.underlying t = some (.slice e)) (hzs : z.cells.size = size) (hsz : 0 < size)
    {v : Value} {n : Nat} {xs : List Value} (hown : Owns h base e size v n xs) {a : Addr} {m c : Nat} {news : List Value} (hl : news.length = m * size)
    (hnews : ∀ j u, news[j]? = some u → hcell h (a.add j) = some u) (h1 : ∀ u ∈ news, u.oneCell' = true) (h63 : n + m ≤ maxLen) (hbytes : (n + m) * bytes ≤ 140737488355328) (hbase : base ≤ h.size)
    (hk : ∀ v' h', Owns h' base e size v' (n + m) (xs ++ news) → GrownH h h' v.ownBlock → (v' = .slice none 0 0 ↔ v = .slice none 0 0 ∧ m = 0) → (v'.ownBlock = v.ownBlock ∨ v'.ownBlock = some h.size) → K v' h') :
    Runs P (builtin .append #[t, t] ty cs #[v, .slice (some a) m c]) h K E := by
  obtain ⟨i, hi, hz, hsize, hby⟩ := hi
  intro w hw
  subst hw
  obtain ⟨v', w', hr, ho, hg, hn, hat⟩ := run_append_own_at (P := P) w base t ty e i z size bytes ht hi hz hsize hby hzs hsz v n xs hown a m c news hl (fun j u hj => hnews j u hj) h1 h63 hbytes hbase
  simp only [builtin, Sem.run_bind, hr, Result.andThen_ok, Sem.run_pure, uponH]
  exact ⟨⟨hg.os, hg.tape, hg.output⟩, hk v' w'.heap ho ⟨hg.size, hg.block⟩ hn hat⟩
theorem runs_buildSlice1' {P : Program} {h : Heap} {K : Value → Heap → Prop} {E : List PanicEntry → Heap → Prop} {t e : TypeId} {z x : Value} {size bytes : Nat}
    (hi : InfoT P e z size bytes) (ht : P.underlying t = some (.slice e)) (hx : x.cells.size = size) (hs0 : 0 < size) (hs : size ≤ 1000)
    (hk : K (.slice (some ⟨h.size, 0, none⟩) 1 1) (h.push (.cells x.cells e))) : Runs P (vS (Instr.buildSlice t 1 #[(0, x)])) h K E := by
  obtain ⟨i, h1', h2, h3, h4⟩ := hi
  subst h3
  exact runs_buildSlice1 ht h1' h2 hx hs0 hs hk

end Go.Vcg
