/- A part of the proofs over this seat: Set2. -/
import Derived.Test.YtlgflejdbgoinaaGreatDoorVcgRules
import Derived.Test.YtlgflejdbgoinaaGreatDoorFacts
import Derived.Test.YtlgflejdbgoinaaGreatDoorT2a
import Derived.Great.FillDense
import Derived.Great.BuildSlice
set_option linter.unusedVariables false
set_option linter.unusedSimpArgs false
set_option maxRecDepth 100000
namespace Go.Vcg
variable {P : Program}

/-! ### Loops that a model's fuel counts down -/
theorem min_fuel {p : Nat → Prop} (h : ∃ k, p k) : ∃ m, p m ∧ ∀ j, p j → m ≤ j := by
  obtain ⟨k, hk⟩ := h
  induction k using Nat.strongRecOn with
  | _ k ih =>
    by_cases hh : ∃ j, j < k ∧ p j
    · obtain ⟨j, hj, hp⟩ := hh
      exact ih j hj hp
    · exact ⟨k, hk, fun j hj => Nat.le_of_not_lt fun hlt => hh ⟨j, hlt, hj⟩⟩
open Classical in
noncomputable def least (p : Nat → Prop) : Nat := if h : ∃ k, p k then (min_fuel h).choose else 0
theorem least_spec {p : Nat → Prop} (h : ∃ k, p k) : p (least p) ∧ ∀ j, p j → least p ≤ j := by
  unfold least
  rw [dif_pos h]
  exact (min_fuel h).choose_spec
theorem least_iff {p : Nat → Prop} {k : Nat} : ((∃ j, p j) ∧ least p < k) ↔ ∃ j, j < k ∧ p j := by
  constructor
  · rintro ⟨h, hl⟩
    exact ⟨least p, hl, (least_spec h).1⟩
  · rintro ⟨j, hj, hp⟩
    exact ⟨⟨j, hp⟩, Nat.lt_of_le_of_lt ((least_spec ⟨j, hp⟩).2 j hp) hj⟩

theorem Loop0.fuel {h : Heap} {body : (Heap → Prop) → Heap → Prop} (Inv : Nat → Heap → Prop) {n : Nat} (h₀ : Inv n h)
    (hr : ∀ k h, Inv k h → body (fun h' => ∃ j, j < k ∧ Inv j h') h) : Loop0 h body := by
  refine Loop0.intro (fun h => ∃ k, Inv k h) (fun h => least fun k => Inv k h) ⟨n, h₀⟩ fun h hi => ?_
  have := hr _ h (least_spec hi).1
  have e : (fun h' => ∃ j, j < (least fun k => Inv k h) ∧ Inv j h') = fun h' => (∃ k, Inv k h') ∧ (least fun k => Inv k h') < least fun k => Inv k h := by
    funext h'
    exact propext least_iff.symm
  rwa [e] at this
theorem Loop1.fuel {a0 : Value} {h : Heap} {body : (Value → Heap → Prop) → Value → Heap → Prop} (Inv : Nat → Value → Heap → Prop) {n : Nat} (h₀ : Inv n a0 h)
    (hr : ∀ k a h, Inv k a h → body (fun b h' => ∃ j, j < k ∧ Inv j b h') a h) : Loop1 a0 h body := by
  refine Loop1.intro (fun a h => ∃ k, Inv k a h) (fun a h => least fun k => Inv k a h) ⟨n, h₀⟩ fun a h hi => ?_
  have := hr _ a h (least_spec hi).1
  have e : (fun b h' => ∃ j, j < (least fun k => Inv k a h) ∧ Inv j b h') = fun b h' => (∃ k, Inv k b h') ∧ (least fun k => Inv k b h') < least fun k => Inv k a h := by
    funext b h'
    exact propext least_iff.symm
  rwa [e] at this
theorem Loop2.fuel {a0 a1 : Value} {h : Heap} {body : (Value → Value → Heap → Prop) → Value → Value → Heap → Prop} (Inv : Nat → Value → Value → Heap → Prop) {n : Nat} (h₀ : Inv n a0 a1 h)
    (hr : ∀ k a c h, Inv k a c h → body (fun b d h' => ∃ j, j < k ∧ Inv j b d h') a c h) : Loop2 a0 a1 h body := by
  refine Loop2.intro (fun a c h => ∃ k, Inv k a c h) (fun a c h => least fun k => Inv k a c h) ⟨n, h₀⟩ fun a c h hi => ?_
  have := hr _ a c h (least_spec hi).1
  have e : (fun b d h' => ∃ j, j < (least fun k => Inv k a c h) ∧ Inv j b d h') = fun b d h' => (∃ k, Inv k b d h') ∧ (least fun k => Inv k b d h') < least fun k => Inv k a c h := by
    funext b d h'
    exact propext least_iff.symm
  rwa [e] at this
theorem Loop3.fuel {a0 a1 a2 : Value} {h : Heap} {body : (Value → Value → Value → Heap → Prop) → Value → Value → Value → Heap → Prop} (Inv : Nat → Value → Value → Value → Heap → Prop) {n : Nat} (h₀ : Inv n a0 a1 a2 h)
    (hr : ∀ k a c e h, Inv k a c e h → body (fun b d f h' => ∃ j, j < k ∧ Inv j b d f h') a c e h) : Loop3 a0 a1 a2 h body := by
  refine Loop3.intro (fun a c e h => ∃ k, Inv k a c e h) (fun a c e h => least fun k => Inv k a c e h) ⟨n, h₀⟩ fun a c e h hi => ?_
  have := hr _ a c e h (least_spec hi).1
  have eq : (fun b d f h' => ∃ j, j < (least fun k => Inv k a c e h) ∧ Inv j b d f h') = fun b d f h' => (∃ k, Inv k b d f h') ∧ (least fun k => Inv k b d f h') < least fun k => Inv k a c e h := by
    funext b d f h'
    exact propext least_iff.symm
  rwa [eq] at this

/-! ### Frames -/
/-- what lies below n is as it was, but for one block; nothing goes -/
structure Fm (n r : Nat) (h h' : Heap) : Prop where
  size : h.size ≤ h'.size
  same : ∀ k, k < n → k ≠ r → h'[k]? = h[k]?
theorem Fm.refl (n r : Nat) (h : Heap) : Fm n r h h := ⟨Nat.le_refl _, fun _ _ _ => rfl⟩
theorem Fm.trans {n r : Nat} {h h' h'' : Heap} (a : Fm n r h h') (b : Fm n r h' h'') : Fm n r h h'' :=
  ⟨Nat.le_trans a.size b.size, fun k hk hr => (b.same k hk hr).trans (a.same k hk hr)⟩
theorem Fm.less {n m r : Nat} {h h' : Heap} (a : Fm n r h h') (hm : m ≤ n) : Fm m r h h' := ⟨a.size, fun k hk hr => a.same k (by omega) hr⟩
theorem Fm.push {n r : Nat} {h : Heap} (hn : n ≤ h.size) (o : Obj) : Fm n r h (h.push o) := ⟨by simp, fun k hk _ => by rw [Array.getElem?_push, if_neg (by omega)]⟩
theorem Fm.upd {n r b : Nat} {h h' : Heap} {o : Obj} (u : Upd h h' b o) (hb : n ≤ b ∨ b = r) : Fm n r h h' :=
  ⟨by rw [u.size]; exact Nat.le_refl _, fun k hk hr => u.other k (by rcases hb with hb | hb <;> omega)⟩
theorem Fm.grown {n r : Nat} {h h' : Heap} {row : Option Nat} (g : GrownH h h' row) (hn : n ≤ h.size) (hr : ∀ b, row = some b → n ≤ b ∨ b = r) : Fm n r h h' :=
  ⟨g.size, fun k hk hkr => g.block k (by omega) fun e => by rcases hr k e.symm with h | h <;> omega⟩

theorem push_at (h : Heap) (o : Obj) : (h.push o)[h.size]? = some o := by simp
theorem push_old {h : Heap} {o : Obj} {k : Nat} (hk : k < h.size) : (h.push o)[k]? = h[k]? := by rw [Array.getElem?_push, if_neg (by omega)]

theorem at_lt {h : Heap} {k : Nat} {o : Obj} (hk : h[k]? = some o) : k < h.size := (Array.getElem?_eq_some_iff.1 hk).1

/-- one block is new -/
structure Al (h h' : Heap) (o : Obj) : Prop where
  size : h'.size = h.size + 1
  at_ : h'[h.size]? = some o
  old : ∀ k, k < h.size → h'[k]? = h[k]?
theorem Al.push (h : Heap) (o : Obj) : Al h (h.push o) o := ⟨by simp, push_at h o, fun _ hk => push_old hk⟩
theorem Fm.al {n r : Nat} {h h' : Heap} {o : Obj} (a : Al h h' o) (hn : n ≤ h.size) : Fm n r h h' := ⟨by rw [a.size]; omega, fun k hk _ => a.old k (by omega)⟩
theorem alloc_rule {T : TypeId} {z : Value} {h : Heap} {K : Value → Heap → Prop} (hz : zeroT P T = some z) (hk : ∀ h', Al h h' (.cells z.cells T (0, 0)) → K (.pointer (some ⟨h.size, 0, none⟩)) h') : pAlloc P T h K := by
  simp only [pAlloc, hz, need, pNew]
  exact hk _ (Al.push ..)
theorem new_rule {T : TypeId} {x : Value} {h : Heap} {K : Value → Heap → Prop} (hk : ∀ h', Al h h' (.cells x.cells T (0, 0)) → K (.pointer (some ⟨h.size, 0, none⟩)) h') : pNew T x h K := by
  simp only [pNew]
  exact hk _ (Al.push ..)
theorem slice1_rule {h : Heap} {K : Value → Heap → Prop} {E : List PanicEntry → Heap → Prop} {t e : TypeId} {z x : Value} {size bytes : Nat}
    (hi : InfoT P e z size bytes) (ht : P.underlying t = some (.slice e)) (hx : x.cells.size = size) (hs0 : 0 < size) (hs : size ≤ 1000)
    (hk : ∀ h', Al h h' (.cells x.cells e (0, 0)) → K (.slice (some ⟨h.size, 0, none⟩) 1 1) h') : Runs P (vS (Instr.buildSlice t 1 #[(0, x)])) h K E :=
  runs_buildSlice1' hi ht hx hs0 hs (hk _ (Al.push ..))

/-- rows that are read whole -/
theorem hcells_of {h : Heap} {b : Nat} {cs : Array Value} {t : TypeId} {fz : Nat × Nat} (hb : h[b]? = some (.cells cs t fz)) : ∀ (n i off : Nat), off + i + n ≤ cs.size →
    hcells h ⟨b, off, none⟩ i n = some ((cs.toList.drop (off + i)).take n)
  | 0, i, off, _ => by simp [hcells]
  | n + 1, i, off, hl => by
    have h1 : cs[off + i]? = some cs[off + i] := Array.getElem?_eq_getElem (by omega)
    simp only [hcells, addr_add, hcell_of hb, h1, hcells_of hb n (i + 1) off (by omega)]
    congr 1
    have hlt : off + i < cs.toList.length := by simp; omega
    rw [List.drop_eq_getElem_cons hlt, List.take_succ_cons]
    simp [Nat.add_assoc]

theorem load_row {t T : TypeId} {h : Heap} {b off n : Nat} {cs : Array Value} {fz : Nat × Nat} {k : Value → Prop} (hb : h[b]? = some (.cells cs t fz)) (hT : aggN P T = some (some n)) (hl : off + n ≤ cs.size)
    (hk : k (.agg ((cs.toList.drop off).take n).toArray)) : pLoad P T (.pointer (some ⟨b, off, none⟩)) h k := by
  unfold pLoad
  simp only [hT]
  exact ⟨_, hcells_of hb n 0 off (by omega), hk⟩
theorem load_all {t T : TypeId} {h : Heap} {b : Nat} {cs : Array Value} {fz : Nat × Nat} {k : Value → Prop} (hb : h[b]? = some (.cells cs t fz)) (hT : aggN P T = some (some cs.size))
    (hk : k (.agg cs)) : pLoad P T (.pointer (some ⟨b, 0, none⟩)) h k := by
  refine load_row hb hT (by omega) ?_
  have : (cs.toList.drop 0).take cs.size = cs.toList := by rw [List.drop_zero, List.take_of_length_le (by simp)]
  rw [this]
  exact hk

/-- a result is put into its place and read again -/
theorem ret_full {T t : TypeId} {h : Heap} {b : Nat} {cs xs : Array Value} {R : Value → Heap → Prop} (hb : h[b]? = some (.cells cs t (0, 0))) (hT : sizeT P T = some xs.size) (hA : aggN P T = some (some xs.size))
    (hs : cs.size = xs.size) (hx : ∀ v ∈ xs.toList, flat v = true) (hk : ∀ h', Upd h h' b (.cells xs t (0, 0)) → R (.agg xs) h') :
    pStore P T (.pointer (some ⟨b, 0, none⟩)) (.agg xs) h fun h' => pLoad P T (.pointer (some ⟨b, 0, none⟩)) h' fun r => R r h' :=
  storeFull hb hT hs hx fun h' hu => load_all hu.same hA (hk h' hu)

theorem runs_panic {v : Value} {h : Heap} {K : Value → Heap → Prop} {E : List PanicEntry → Heap → Prop} {t : TypeId} {x : Value} (hv : v = .iface t x) (he : E [{ v := v, recovered := false }] h) :
    Runs P (vS (Instr.panic v)) h K E := by
  intro w hw
  subst hw hv
  simp only [Instr.panic, vS]
  simp [goPanic, uponH, Same.refl]
  exact he

end Go.Vcg
namespace Go.Vcg
variable {P : Program}
theorem size_run {e : TypeId} {n : Nat} (hs : sizeT P e = some n) (w : World) : (sizeOf e).run P w = .ok n w := by
  unfold sizeT at hs
  split at hs
  · rename_i info hi
    simp only [Option.some.injEq] at hs
    simp [sizeOf, typeInfo, program, Sem.run, hi, hs]
  · cases hs
theorem reads_idxArr {t e : TypeId} {n sz i : Nat} {a : Addr} {K : IntKind} {h : Heap} {k : Value → Prop} (ht : P.underlying t = some (.array n e)) (hs : sizeT P e = some sz) (hi : i < n) :
    Reads P (Instr.indexAt t (.pointer (some a)) (.int K i)) h k = k (.pointer (some (a.add (i * sz)))) := reads_pure fun w => by
  simp [Instr.indexAt, asIntOf, Instr.sureAddr, Go.underlying, program, Sem.run, ht, size_run hs, hi]
theorem reads_idxRow {t e : TypeId} {n c sz i : Nat} {a : Addr} {K : IntKind} {h : Heap} {k : Value → Prop} (ht : P.underlying t = some (.slice e)) (hs : sizeT P e = some sz) (hi : i < n) :
    Reads P (Instr.indexAt t (.slice (some a) n c) (.int K i)) h k = k (.pointer (some (a.add (i * sz)))) := reads_pure fun w => by
  simp [Instr.indexAt, asIntOf, Go.underlying, program, Sem.run, ht, size_run hs, hi]
theorem reads_rlen {t r e : TypeId} {n c : Nat} {p : Option Addr} {h : Heap} {k : Value → Prop} (ht : P.underlying t = some (.slice e)) : Reads P (builtinS .len #[t] r #[.slice p n c]) h k = k (.int .i64 n) := reads_pure fun w => by
  simp [builtinS, Builtin.len_, Go.underlying, program, Sem.run, ht, goInt]
end Go.Vcg

namespace Go.Proofs.Rt
open Go.Vcg

/-! ### Trees -/
structure W4 where
  a : Nat
  b : Nat
  c : Nat
  d : Nat
  deriving DecidableEq
end Go.Proofs.Rt

set_option maxRecDepth 100000
namespace Go.Proofs
open Go.Vcg
namespace Rt
attribute [local congr] Reads.congr ReadsS.congr pLoad.congr pLoadS.congr pStore.congr Runs.congr CallsH.congr bcase.congr boolV.congr Stable.congr pAlloc.congr
abbrev ptr (r : Nat) : Value := .pointer (some ⟨r, 0, none⟩)

/-! ### Sets of bytes -/
def W4.vals (s : W4) : List Value := [.int .u64 s.a, .int .u64 s.b, .int .u64 s.c, .int .u64 s.d]
def W4.ok (s : W4) : Prop := s.a < 2 ^ 64 ∧ s.b < 2 ^ 64 ∧ s.c < 2 ^ 64 ∧ s.d < 2 ^ 64
def W4.zero : W4 := ⟨0, 0, 0, 0⟩
def W4.put (s : W4) (c : UInt8) : W4 :=
  match c.toNat / 64 with
  | 0 => { s with a := s.a ||| 2 ^ (c.toNat % 64) }
  | 1 => { s with b := s.b ||| 2 ^ (c.toNat % 64) }
  | 2 => { s with c := s.c ||| 2 ^ (c.toNat % 64) }
  | _ => { s with d := s.d ||| 2 ^ (c.toNat % 64) }
theorem lor_lt {x m : Nat} (hx : x < 2 ^ 64) (hm : m < 64) : x ||| 2 ^ m < 2 ^ 64 := Nat.or_lt_two_pow hx (Nat.pow_lt_pow_right (by omega) hm)
theorem W4.put_ok {s : W4} (h : s.ok) (c : UInt8) : (s.put c).ok := by
  have hm : c.toNat % 64 < 64 := Nat.mod_lt _ (by omega)
  unfold W4.put
  obtain ⟨h1, h2, h3, h4⟩ := h
  split
  · exact ⟨lor_lt h1 hm, h2, h3, h4⟩
  · exact ⟨h1, lor_lt h2 hm, h3, h4⟩
  · exact ⟨h1, h2, lor_lt h3 hm, h4⟩
  · exact ⟨h1, h2, h3, lor_lt h4 hm⟩
theorem W4.zero_ok : W4.zero.ok := by refine ⟨?_, ?_, ?_, ?_⟩ <;> exact Nat.two_pow_pos 64

theorem u64_wrap {x : Nat} (hx : x < 2 ^ 64) : IntKind.u64.wrap (x : Int) = (x : Int) := by
  simp only [IntKind.wrap, IntKind.bits, IntKind.signed]
  simp
  omega
theorem or_word {x m : Nat} (hx : x < 2 ^ 64) (hm : m < 64) :
    IntKind.u64.wrap (BitVec.ofInt IntKind.u64.bits (x : Int) ||| BitVec.ofInt IntKind.u64.bits (IntKind.u64.wrap ((1 : Int) * 2 ^ min ((m : Int)).toNat IntKind.u64.bits))).toNat = ((x ||| 2 ^ m : Nat) : Int) := by
  have h2 : (2 : Nat) ^ m < 2 ^ 64 := Nat.pow_lt_pow_right (by omega) hm
  have e0 : min ((m : Int)).toNat IntKind.u64.bits = m := by simp [IntKind.bits]; omega
  have e1 : (1 : Int) * 2 ^ min ((m : Int)).toNat IntKind.u64.bits = ((2 ^ m : Nat) : Int) := by rw [e0]; simp
  rw [e1, u64_wrap h2]
  have e2 : ∀ y : Nat, y < 2 ^ 64 → (BitVec.ofInt IntKind.u64.bits (y : Int)).toNat = y := by
    intro y hy
    simp only [IntKind.bits, BitVec.ofInt_natCast, BitVec.toNat_ofNat]
    exact Nat.mod_eq_of_lt hy
  rw [BitVec.toNat_or, e2 x hx, e2 _ h2]
  exact u64_wrap (Nat.or_lt_two_pow hx h2)
theorem u8_quo (c : UInt8) : IntKind.u8.wrap ((c.toNat : Int).tdiv 64) = ((c.toNat / 64 : Nat) : Int) := by
  have hc := c.toNat_lt
  have e : (c.toNat : Int).tdiv 64 = ((c.toNat / 64 : Nat) : Int) := by rw [Int.tdiv_eq_ediv_of_nonneg (by omega)]; rfl
  rw [e]
  simp only [IntKind.wrap, IntKind.bits, IntKind.signed]
  simp
  omega
theorem u8_rem (c : UInt8) : ((c.toNat : Int).tmod 64) = ((c.toNat % 64 : Nat) : Int) := by
  rw [Int.tmod_eq_emod_of_nonneg (by omega)]; rfl

theorem put_spec {h : Heap} {b : Nat} {s : W4} {c : UInt8} {R : Value → Heap → Prop} {E : List PanicEntry → Heap → Prop} (hs : s.ok)
    (hb : h[b]? = some (.cells s.vals.toArray 146 (0, 0))) (hk : ∀ h', Upd h h' b (.cells (s.put c).vals.toArray 146 (0, 0)) → R (.tuple #[]) h') :
    CallsH Tryz.prog 106 #[ptr b, .int .u8 c.toNat] h R E := by
  refine C106 ?_
  unfold S106
  have hc : c.toNat / 64 < 4 := by have := c.toNat_lt; omega
  have hm : c.toNat % 64 < 64 := Nat.mod_lt _ (by omega)
  have hn : ¬ ((c.toNat % 64 : Nat) : Int) < 0 := by omega
  simp only [boolV_bool, bcase_true, bcase_false, need, reads_nil, pLoad, Tryz.agg121, reads_or, Tryz.size121, reads_quo (by omega : (64 : Int) ≠ 0), reads_rem (by omega : (64 : Int) ≠ 0), u8_rem, reads_shl hn, reads_or, u8_quo, reads_idxArr Tryz.underlying146 Tryz.size121 hc, hcell_of hb, addr_add, hcell_mk, List.getElem?_toArray, List.getElem?_cons_zero, List.getElem?_cons_succ, Option.some.injEq, exists_eq_left', Nat.reduceAdd, Nat.zero_add, Option.isSome_none, Bool.false_eq_true, if_false, Nat.mul_one, true_and, and_true]
  obtain ⟨h1, h2, h3, h4⟩ := hs
  have fin : ∀ (q : Nat) (x : Nat), c.toNat / 64 = q → s.vals[q]? = some (.int .u64 x) → x < 2 ^ 64 → (s.put c).vals.toArray = s.vals.toArray.setIfInBounds q (.int .u64 ((x ||| 2 ^ (c.toNat % 64) : Nat) : Int)) →
      ∃ v, s.vals[c.toNat / 64]? = some v ∧ Reads Tryz.prog (binS BinOp.or 121 false v (Value.int IntKind.u64 (IntKind.u64.wrap ((1 : Int) * 2 ^ min ((c.toNat % 64 : Nat) : Int).toNat IntKind.u64.bits)))) h fun t13 =>
        pStore Tryz.prog 121 (Value.pointer (some { block := b, off := c.toNat / 64 })) t13 h fun h1 => R (Value.tuple #[]) h1 := by
    intro q x hq hx hlt he
    rw [hq]
    refine ⟨_, hx, ?_⟩
    rw [reads_or, or_word hlt hm]
    exact store1 hb Tryz.size121 rfl (by have := (List.getElem?_eq_some_iff.1 hx).1; simpa using this) fun h' hu => hk h' (by rw [he]; exact hu)
  rcases (by omega : c.toNat / 64 = 0 ∨ c.toNat / 64 = 1 ∨ c.toNat / 64 = 2 ∨ c.toNat / 64 = 3) with hq | hq | hq | hq
  · exact fin 0 s.a hq rfl h1 (by simp [W4.put, hq, W4.vals])
  · exact fin 1 s.b hq rfl h2 (by simp [W4.put, hq, W4.vals])
  · exact fin 2 s.c hq rfl h3 (by simp [W4.put, hq, W4.vals])
  · exact fin 3 s.d hq rfl h4 (by simp [W4.put, hq, W4.vals])

def setOf (l : List UInt8) : W4 := l.foldl W4.put .zero
theorem foldl_ok : ∀ (l : List UInt8) {s : W4}, s.ok → (l.foldl W4.put s).ok
  | [], s, h => h
  | c :: l, s, h => foldl_ok l (W4.put_ok h c)

theorem of_spec {h : Heap} {l : List UInt8} {R : Value → Heap → Prop} {E : List PanicEntry → Heap → Prop} (hl : l.length ≤ 4611686018427387904)
    (hk : ∀ h', Fm h.size h.size h h' → R (.agg (setOf l).vals.toArray) h') : CallsH Tryz.prog 95 #[str l] h R E := by
  refine C95 ?_
  unfold S95
  refine alloc_rule Tryz.zero146 fun h1 a1 => alloc_rule Tryz.zero146 fun h2 a2 => ?_
  simp only [boolV_bool, bcase_true, bcase_false, need, Tryz.zero146, reads_lt, reads_add, Tryz.agg146, Tryz.size146, reads_slen Tryz.underlying9, hcell_mk, List.getElem?_toArray, List.getElem?_cons_zero, List.getElem?_cons_succ, Option.some.injEq, exists_eq_left', Nat.reduceAdd, Nat.zero_add, Option.isSome_none, Bool.false_eq_true, if_false]
  have f2 : Fm h.size h.size h h2 := (Fm.al a1 (Nat.le_refl _)).trans (Fm.al a2 (by rw [a1.size]; omega))
  refine Loop1.fuel (Inv := fun k a h' => ∃ i, i ≤ l.length ∧ k = l.length - i ∧ a = .int .i64 i ∧ Fm h.size h.size h h' ∧ h'[h.size]? = some (.cells W4.zero.vals.toArray 146 (0, 0)) ∧ h'[h1.size]? = some (.cells ((l.take i).foldl W4.put .zero).vals.toArray 146 (0, 0)))
    (n := l.length) ⟨0, by omega, by simp, rfl, f2, ?_, ?_⟩ ?_
  · rw [a2.old _ (by rw [a1.size]; omega)]; exact a1.at_
  · exact a2.at_
  · rintro k a h3 ⟨i, hi, rfl, rfl, hf, hb2, hb3⟩
    simp only [reads_lt, boolV_bool]
    refine bcase_of (fun hc => ?_) (fun hc => ?_)
    · have hlt : i < l.length := by have := of_decide_eq_true hc; omega
      rw [reads_sindex Tryz.underlying9 hlt]
      refine put_spec (foldl_ok _ W4.zero_ok) hb3 fun h4 hu => ?_
      rw [reads_add, wrap_n1 _ (by omega)]
      refine ⟨l.length - (i + 1), by omega, i + 1, by omega, rfl, rfl, hf.trans (Fm.upd hu (.inl (by rw [a1.size]; omega))), ?_, ?_⟩
      · rw [hu.other _ (by rw [a1.size]; omega)]; exact hb2
      · rw [hu.same, List.take_add_one, List.foldl_append, List.getElem?_eq_getElem hlt]; rfl
    · have hil : i = l.length := by have := of_decide_eq_false hc; omega
      subst hil
      refine load_all hb3 Tryz.agg146 ?_
      refine ret_full hb2 Tryz.size146 Tryz.agg146 rfl ?_ fun h4 hu => ?_
      · intro v hv
        simp only [W4.vals, List.mem_cons, List.not_mem_nil, or_false] at hv
        rcases hv with rfl | rfl | rfl | rfl <;> rfl
      · rw [List.take_length]
        exact hk h4 (hf.trans (Fm.upd hu (.inl (Nat.le_refl _))))

theorem BytesAt.one {h : Heap} {b : Nat} {c : UInt8} {t : TypeId} (hb : h[b]? = some (.cells #[.int .u8 c.toNat] t (0, 0))) : IsBytes h (.slice (some ⟨b, 0, none⟩) 1 1) [c] := by
  refine .inr ⟨b, 0, 1, rfl, by simp, fun i hi => ?_⟩
  have : i = 0 := by simpa using hi
  subst this
  rw [hcell_of hb]; rfl
end Rt
end Go.Proofs

set_option maxRecDepth 100000
namespace Go.Proofs
open Go.Vcg
namespace Rt
attribute [local congr] Reads.congr ReadsS.congr pLoad.congr pLoadS.congr pStore.congr Runs.congr CallsH.congr bcase.congr boolV.congr Stable.congr pAlloc.congr

/-! ### The package's variables -/
/-- the package's variables: what they hold; below N lies all that they reach -/
structure Glb where
  v : Nat → Value
  N : Nat
/-- the errors at the bottom, each a pointer of its own; the type of errors; the greatest length of a search -/
structure Gl (S : Glb) (h : Heap) : Prop where
  n26 : 26 ≤ S.N
  s : ∀ i, i < 22 → i ≠ 0 → hcell h ⟨i, 0, none⟩ = some (S.v i) ∧ ∃ a, S.v i = .iface 194 (.pointer (some a)) ∧ a.block < S.N ∧ ∃ c t, h[a.block]? = some (.cells c t (0, 0))
  inj : ∀ i j, i < 22 → i ≠ 0 → j < 22 → j ≠ 0 → S.v i = S.v j → i = j
  t : hcell h ⟨0, 0, none⟩ = some (.iface 101 (.agg #[.pointer (some ⟨26, 26, none⟩)]))
  m : ∃ m, hcell h ⟨23, 0, none⟩ = some (.int .i64 m)
variable {S : Glb} {n : Nat} {h : Heap} {r : Nat} {bv : Value} {l : List UInt8} {p : Nat} {R : Value → Heap → Prop} {E : List PanicEntry → Heap → Prop}
theorem Gl.fm {h' : Heap} (g : Gl S h) (f : Fm n r h h') (hn : S.N ≤ n) (hr : S.N ≤ r) : Gl S h' := by
  have h26 := g.n26
  have key : ∀ i v, i < 26 → hcell h ⟨i, 0, none⟩ = some v → hcell h' ⟨i, 0, none⟩ = some v := by
    intro i v hi h1
    rw [hcell_mk, f.same i (by omega) (by omega), ← hcell_mk]
    exact h1
  refine ⟨h26, fun i hi h10 => ⟨key i _ (by omega) (g.s i hi h10).1, ?_⟩, g.inj, key 0 _ (by omega) g.t, ?_⟩
  · obtain ⟨a, e1, e2, c, t, e3⟩ := (g.s i hi h10).2
    exact ⟨a, e1, e2, c, t, (f.same _ (by omega) (by omega)).trans e3⟩
  · obtain ⟨m, hm⟩ := g.m
    exact ⟨m, key 23 _ (by omega) hm⟩
theorem pLoad_one {P : Program} {T : TypeId} {a : Addr} {v : Value} {k : Value → Prop} (hT : aggN P T = some none) (hc : hcell h a = some v) : pLoad P T (.pointer (some a)) h k = k v := by
  simp [pLoad, hT, hc]
inductive Res (α : Type) where
  | out
  | bad (code pos : Nat)
  | ok (x : α)
/-! ### Errors -/
def codeAt (code : Nat) : Nat := code
def IsErr (S : Glb) (h : Heap) (n : Nat) (lang code pos : Nat) (v : Value) : Prop :=
  ∃ a b, n ≤ a ∧ n ≤ b ∧ v = .iface 76 (ptr a) ∧ h[a]? = some (.cells #[.iface 72 (ptr b), .int .i64 lang] 79 (0, 0)) ∧ h[b]? = some (.cells #[S.v (codeAt code), .int .i64 pos] 75 (0, 0))
theorem of27_spec {code : Nat} (g : Gl S h) (h1 : 1 ≤ code) (h2 : code ≤ 10) (hk : R (S.v (codeAt code)) h) : CallsH Tryz.prog 38 #[.int .i64 code] h R E := by
  refine C38 ?_
  unfold S38
  have hg : ∀ i, i < 22 → i ≠ 0 → hcell h ⟨i, 0, none⟩ = some (S.v i) := fun i a b => (g.s i a b).1
  rcases (by omega : code = 1 ∨ code = 2 ∨ code = 3 ∨ code = 4 ∨ code = 5 ∨ code = 6 ∨ code = 7 ∨ code = 8 ∨ code = 9 ∨ code = 10) with rfl | rfl | rfl | rfl | rfl | rfl | rfl | rfl | rfl | rfl <;>
  · simp only [boolV_bool, bcase_true, bcase_false, need, reads_eq, pLoad, Tryz.agg26, reads_eq]
    simp [hg, bcase]
    exact hk

end Rt
end Go.Proofs

set_option maxRecDepth 100000
namespace Go.Proofs
open Go.Vcg
namespace Rt
attribute [local congr] Reads.congr ReadsS.congr pLoad.congr pLoadS.congr pStore.congr Runs.congr CallsH.congr bcase.congr boolV.congr Stable.congr pAlloc.congr
variable {S : Glb} {n : Nat} {h : Heap} {r : Nat} {R : Value → Heap → Prop} {E : List PanicEntry → Heap → Prop}

theorem readsS_lift {P : Program} {s : Sem Value} {v : Value} {St : Heap → Prop} {k : Value → Prop} (hr : ∀ (h : Heap) (k : Value → Prop), Reads P s h k = k v) (hk : k v) : ReadsS P s St k := by
  refine ⟨v, fun w hw => ?_, hk⟩
  have h0 : Reads P s w.heap (fun x => x = v) := by rw [hr]
  obtain ⟨v', h1, rfl⟩ := h0
  exact h1 w rfl
theorem pLoadS_one {P : Program} {T : TypeId} {a : Addr} {v : Value} {St : Heap → Prop} {k : Value → Prop} (hT : aggN P T = some none) (hc : ∀ h, St h → hcell h a = some v) (hk : k v) : pLoadS P T (.pointer (some a)) St k := by
  unfold pLoadS
  simp only [hT]
  exact ⟨v, hc, hk⟩
theorem pLoadS_all {P : Program} {T t : TypeId} {b : Nat} {cs : Array Value} {St : Heap → Prop} {k : Value → Prop} (hT : aggN P T = some (some cs.size)) (hc : ∀ h, St h → h[b]? = some (.cells cs t (0, 0))) (hk : k (.agg cs)) :
    pLoadS P T (.pointer (some ⟨b, 0, none⟩)) St k := by
  unfold pLoadS
  simp only [hT]
  refine ⟨cs.toList, fun h hs => ?_, by simpa using hk⟩
  have := hcells_of (hc h hs) cs.size 0 0 (by omega)
  rw [this, List.drop_zero, List.take_of_length_le (by simp)]
theorem wrap_u64 {x : Nat} (hx : x < 2 ^ 64) : IntKind.u64.wrap (x : Int) = (x : Int) := u64_wrap hx
theorem wrap_u8 {x : Nat} (hx : x < 256) : IntKind.u8.wrap (x : Int) = (x : Int) := by
  simp only [IntKind.wrap, IntKind.bits, IntKind.signed]
  simp
  omega
theorem Fm.lift {n m r : Nat} {h h' : Heap} (f : Fm h.size m h h') (hn : n ≤ h.size) (hm : n ≤ m) : Fm n r h h' := ⟨f.size, fun k hk _ => f.same k (by omega) (by omega)⟩
def u8 (i : Nat) : UInt8 := UInt8.ofNat i
theorem u8_toNat {i : Nat} (h : i < 256) : (u8 i).toNat = i := by
  unfold u8
  rw [UInt8.toNat_ofNat']
  omega
theorem val_u8 {i : Nat} (h : i < 256) : Value.int .u8 (i : Int) = .int .u8 ((u8 i).toNat : Int) := by rw [u8_toNat h]
def nt (x : Nat) : Nat := 2 ^ 64 - 1 - x
def W4.notK (s : W4) (i : Nat) : W4 := ⟨if 0 < i then nt s.a else s.a, if 1 < i then nt s.b else s.b, if 2 < i then nt s.c else s.c, if 3 < i then nt s.d else s.d⟩
def W4.not (s : W4) : W4 := ⟨nt s.a, nt s.b, nt s.c, nt s.d⟩
theorem W4.not_ok (s : W4) : s.not.ok := by
  refine ⟨?_, ?_, ?_, ?_⟩ <;> simp only [W4.not, nt] <;> omega
theorem xor_all {x : Nat} (hx : x < 2 ^ 64) : (BitVec.ofInt 64 (x : Int) ^^^ BitVec.ofInt 64 18446744073709551615).toNat = nt x := by
  have h1 : BitVec.ofInt 64 18446744073709551615 = BitVec.allOnes 64 := by decide
  rw [h1, BitVec.xor_allOnes, BitVec.toNat_not, BitVec.ofInt_natCast, BitVec.toNat_ofNat, Nat.mod_eq_of_lt hx]
  rfl
theorem reads_nt {x : Nat} {k : Value → Prop} (hx : x < 2 ^ 64) : Reads Tryz.prog (Op.unary .xor (.int .u64 x)) h k = k (.int .u64 (nt x : Nat)) := by
  rw [reads_xor]
  have e : (BitVec.ofInt IntKind.u64.bits (x : Int) ^^^ BitVec.ofInt IntKind.u64.bits (if IntKind.u64.signed = true then -1 else IntKind.u64.max)).toNat = nt x := xor_all hx
  rw [e, wrap_u64 (by unfold nt; omega)]
theorem flat_vals (s : W4) : ∀ v ∈ s.vals.toArray.toList, flat v = true := by
  intro v hv
  simp only [W4.vals, List.mem_cons, List.not_mem_nil, or_false] at hv
  rcases hv with rfl | rfl | rfl | rfl <;> rfl
theorem not_spec {s : W4} (hs : s.ok) (hk : ∀ h', Fm h.size h.size h h' → R (.agg s.not.vals.toArray) h') : CallsH Tryz.prog 105 #[.agg s.vals.toArray] h R E := by
  refine C105 ?_
  unfold S105
  refine new_rule fun h1 a1 => alloc_rule Tryz.zero146 fun h2 a2 => ?_
  have s1 := a1.size
  have s2 := a2.size
  have f2 : Fm h.size h.size h h2 := (Fm.al a1 (Nat.le_refl _)).trans (Fm.al a2 (by omega))
  refine Loop1.fuel (fun k a h' => ∃ i : Nat, a = .int .i64 i ∧ i ≤ 4 ∧ k = 4 - i ∧ Fm h.size h.size h h' ∧ h'[h.size]? = some (.cells (s.notK i).vals.toArray 146 (0, 0)) ∧ ∃ c2, h'[h1.size]? = some (.cells c2 146 (0, 0)) ∧ c2.size = 4)
    (n := 4) ⟨0, rfl, by omega, by omega, f2, ?_, _, a2.at_, rfl⟩ fun k a h3 hi => ?_
  · rw [a2.old _ (by omega)]
    exact a1.at_
  obtain ⟨i, rfl, hi, rfl, f3, hb, c2, hb2, hc2⟩ := hi
  rw [reads_lt, boolV_bool]
  refine bcase_of (fun hc => ?_) (fun hc => ?_)
  · have hlt : i < 4 := by have := of_decide_eq_true hc; omega
    rw [reads_idxArr Tryz.underlying146 Tryz.size121 hlt, addr_add, Nat.zero_add, Nat.mul_one]
    have fin : ∀ x : Nat, x < 2 ^ 64 → (s.notK i).vals.toArray[i]? = some (.int .u64 x) → (s.notK (i + 1)).vals.toArray = (s.notK i).vals.toArray.setIfInBounds i (.int .u64 (nt x : Nat)) →
        pLoad Tryz.prog 121 (.pointer (some ⟨h.size, i, none⟩)) h3 fun t10 => Reads Tryz.prog (Op.unary .xor t10) h3 fun t11 => Reads Tryz.prog (Instr.indexAt 146 (.pointer (some ⟨h.size, 0, none⟩)) (.int .i64 i)) h3 fun t12 => pStore Tryz.prog 121 t12 t11 h3 fun h4 =>
          Reads Tryz.prog (binS .add 3 true (.int .i64 i) (.int .i64 1)) h4 fun t13 => ∃ j, j < 4 - i ∧ ∃ i : Nat, t13 = .int .i64 i ∧ i ≤ 4 ∧ j = 4 - i ∧ Fm h.size h.size h h4 ∧ h4[h.size]? = some (.cells (s.notK i).vals.toArray 146 (0, 0)) ∧ ∃ c2, h4[h1.size]? = some (.cells c2 146 (0, 0)) ∧ c2.size = 4 := by
      intro x hx hv he
      rw [pLoad_one (v := .int .u64 x) Tryz.agg121 (by rw [hcell_of hb]; exact hv), reads_nt hx, reads_idxArr Tryz.underlying146 Tryz.size121 hlt, addr_add, Nat.zero_add, Nat.mul_one]
      refine store1 hb Tryz.size121 rfl (by simp [W4.vals]; omega) fun h4 hu => ?_
      rw [reads_add, wrap_n1 _ (by omega)]
      refine ⟨4 - (i + 1), by omega, i + 1, rfl, by omega, rfl, f3.trans (Fm.upd hu (.inl (Nat.le_refl _))), ?_, c2, (hu.other _ (by omega)).trans hb2, hc2⟩
      rw [hu.same, he]
    obtain ⟨h1', h2', h3', h4'⟩ := hs
    rcases (by omega : i = 0 ∨ i = 1 ∨ i = 2 ∨ i = 3) with e | e | e | e
    · exact fin s.a h1' (by rw [e]; rfl) (by rw [e]; rfl)
    · exact fin s.b h2' (by rw [e]; rfl) (by rw [e]; rfl)
    · exact fin s.c h3' (by rw [e]; rfl) (by rw [e]; rfl)
    · exact fin s.d h4' (by rw [e]; rfl) (by rw [e]; rfl)
  · have hil : i = 4 := by have := of_decide_eq_false hc; omega
    subst hil
    refine load_all hb Tryz.agg146 ?_
    refine ret_full hb2 Tryz.size146 Tryz.agg146 hc2 (flat_vals _) fun h4 hu => ?_
    exact hk h4 (f3.trans (Fm.upd hu (.inl (by omega))))
def anyW : W4 := W4.zero.not
theorem pLoadS_row {P : Program} {T t : TypeId} {b off m : Nat} {cs : Array Value} {St : Heap → Prop} {k : Value → Prop} (hT : aggN P T = some (some m)) (hl : off + m ≤ cs.size) (hc : ∀ h, St h → h[b]? = some (.cells cs t (0, 0)))
    (hk : k (.agg ((cs.toList.drop off).take m).toArray)) : pLoadS P T (.pointer (some ⟨b, off, none⟩)) St k := by
  unfold pLoadS
  simp only [hT]
  exact ⟨_, fun h hs => hcells_of (hc h hs) m 0 off (by omega), hk⟩
theorem IsErr.fm {h' : Heap} {q lang code pos : Nat} {e : Value} (he : IsErr S h q lang code pos e) (f : ∀ k, k < h.size → q ≤ k → h'[k]? = h[k]?) : IsErr S h' q lang code pos e := by
  obtain ⟨a, b, ha, hb, rfl, e1, e2⟩ := he
  exact ⟨a, b, ha, hb, rfl, (f a (at_lt e1) ha).trans e1, (f b (at_lt e2) hb).trans e2⟩
theorem IsErr.less {q q' lang code pos : Nat} {e : Value} (he : IsErr S h q lang code pos e) (hq : q' ≤ q) : IsErr S h q' lang code pos e := by
  obtain ⟨a, b, ha, hb, h⟩ := he
  exact ⟨a, b, by omega, by omega, h⟩
theorem at_spec {t : TypeId} {u : Value} {pos : Nat} (hk : ∀ h', Al h h' (.cells #[.iface t u, .int .i64 pos] 75 (0, 0)) → R (.iface 72 (ptr h.size)) h') : CallsH Tryz.prog 37 #[.iface t u, .int .i64 pos] h R E := by
  refine C37 ?_
  unfold S37
  simp only [boolV_bool, bcase_true, bcase_false, need, Tryz.eql26_s, Tryz.eql26_n, Tryz.bd75_0_1]
  refine new_rule fun h1 a1 => ?_
  simp only [reads_mkiface Tryz.underlying72 (by simp)]
  exact hk h1 a1
theorem in_spec {t : TypeId} {u : Value} {lang : Nat} (hk : ∀ h', Al h h' (.cells #[.iface t u, .int .i64 lang] 79 (0, 0)) → R (.iface 76 (ptr h.size)) h') : CallsH Tryz.prog 36 #[.iface t u, .int .i64 lang] h R E := by
  refine C36 ?_
  unfold S36
  simp only [boolV_bool, bcase_true, bcase_false, need, Tryz.eql26_s, Tryz.eql26_n, Tryz.bd79_0_1]
  refine new_rule fun h1 a1 => ?_
  simp only [reads_mkiface Tryz.underlying76 (by simp)]
  exact hk h1 a1
end Rt
end Go.Proofs

set_option maxRecDepth 100000
namespace Go.Proofs
open Go.Vcg Go.Extern
namespace Rt
attribute [local congr] Reads.congr ReadsS.congr pLoad.congr pLoadS.congr pStore.congr Runs.congr CallsH.congr bcase.congr boolV.congr Stable.congr pAlloc.congr
variable {S : Glb} {n : Nat} {h : Heap} {r : Nat} {R : Value → Heap → Prop} {E : List PanicEntry → Heap → Prop}

/-! ### Sets together -/
def W4.or (s t : W4) : W4 := ⟨s.a ||| t.a, s.b ||| t.b, s.c ||| t.c, s.d ||| t.d⟩
theorem W4.or_ok {s t : W4} (hs : s.ok) (ht : t.ok) : (s.or t).ok := ⟨Nat.or_lt_two_pow hs.1 ht.1, Nat.or_lt_two_pow hs.2.1 ht.2.1, Nat.or_lt_two_pow hs.2.2.1 ht.2.2.1, Nat.or_lt_two_pow hs.2.2.2 ht.2.2.2⟩
def W4.orK (s t : W4) (i : Nat) : W4 := ⟨if 0 < i then s.a ||| t.a else s.a, if 1 < i then s.b ||| t.b else s.b, if 2 < i then s.c ||| t.c else s.c, if 3 < i then s.d ||| t.d else s.d⟩
def unionM (l : List W4) : W4 := l.foldl W4.or .zero
theorem or_val {x y : Nat} (hx : x < 2 ^ 64) (hy : y < 2 ^ 64) : IntKind.u64.wrap (BitVec.ofInt IntKind.u64.bits (x : Int) ||| BitVec.ofInt IntKind.u64.bits (y : Int)).toNat = ((x ||| y : Nat) : Int) := by
  have e2 : ∀ y : Nat, y < 2 ^ 64 → (BitVec.ofInt IntKind.u64.bits (y : Int)).toNat = y := by
    intro y hy
    simp only [IntKind.bits, BitVec.ofInt_natCast, BitVec.toNat_ofNat]
    exact Nat.mod_eq_of_lt hy
  rw [BitVec.toNat_or, e2 x hx, e2 _ hy]
  exact u64_wrap (Nat.or_lt_two_pow hx hy)
def setRow (l : List W4) : List Value := l.flatMap W4.vals
theorem setRow_len : ∀ l : List W4, (setRow l).length = l.length * 4
  | [] => rfl
  | s :: l => by have := setRow_len l; simp only [setRow, List.flatMap_cons, List.length_append, List.length_cons] at *; rw [this]; simp [W4.vals]; omega
theorem setRow_get : ∀ (l : List W4) (i : Nat) (hi : i < l.length), ((setRow l).drop (i * 4)).take 4 = l[i].vals
  | s :: l, 0, _ => by simp [setRow, W4.vals]
  | s :: l, i + 1, hi => by
    have := setRow_get l i (by simpa using hi)
    have e : (setRow (s :: l)) = s.vals ++ setRow l := rfl
    rw [e, show (i + 1) * 4 = s.vals.length + i * 4 by simp [W4.vals]; omega, List.drop_append, List.drop_eq_nil_of_le (by omega), List.nil_append, Nat.add_sub_cancel_left]
    simpa using this
theorem unionM_ok {l : List W4} (h : ∀ s ∈ l, s.ok) : (unionM l).ok := by
  unfold unionM
  have : ∀ (l : List W4) (s : W4), s.ok → (∀ s ∈ l, s.ok) → (l.foldl W4.or s).ok := by
    intro l
    induction l with
    | nil => intro s hs _; exact hs
    | cons x l ih => intro s hs hl; exact ih _ (W4.or_ok hs (hl x (List.mem_cons_self ..))) fun y hy => hl y (List.mem_cons_of_mem _ hy)
  exact this l _ W4.zero_ok h
theorem sets_rule {vs : List W4} {parts : Array (Nat × Value)} {K : Value → Heap → Prop} (hp : parts.toList = ((vs.map fun s => Value.agg s.vals.toArray).zipIdx 0).map fun x => (x.2, x.1)) (h0 : vs ≠ []) (hl : vs.length ≤ 1000)
    (hk : ∀ h', Al h h' (.cells (setRow vs).toArray 146 (0, 0)) → K (.slice (some ⟨h.size, 0, none⟩) vs.length vs.length) h') : Runs Tryz.prog (vS (Instr.buildSlice 189 vs.length parts)) h K E := by
  intro w hw
  subst hw
  obtain ⟨i, hi, hz, hsz, _⟩ := Tryz.info146
  have hlen := List.length_pos_iff.2 h0
  have hf := Go.Great.fill_whole (s := 4) (by omega) (vs.map fun s => Value.agg s.vals.toArray) ((Array.range (vs.length * 4)).map ((Value.agg #[.int .u64 0, .int .u64 0, .int .u64 0, .int .u64 0]).cells[· % (Value.agg #[.int .u64 0, .int .u64 0, .int .u64 0, .int .u64 0]).cells.size]!)) (by
    intro v hv
    obtain ⟨s, _, rfl⟩ := List.mem_map.1 hv
    rfl) (by simp)
  have e := run_buildSlice (P := Tryz.prog) w 189 146 vs.length parts _ i _ Tryz.underlying189 hi hz (by rw [hsz]; omega) (by rw [hsz]; omega) (by rw [hsz, hp]; exact hf)
  have er : ((vs.map fun s => Value.agg s.vals.toArray).flatMap fun v => v.cells.toList) = setRow vs := by
    simp only [setRow, List.flatMap_map]
    rfl
  rw [er] at e
  simp only [vS, Sem.run_bind, e, Result.andThen_ok, Sem.run_pure, uponH]
  exact ⟨⟨rfl, rfl, rfl⟩, hk _ (Al.push ..)⟩
theorem union_spec {vs : List W4} {b c : Nat} (hb : h[b]? = some (.cells (setRow vs).toArray 146 (0, 0))) (hv : ∀ s ∈ vs, s.ok) (hl : vs.length ≤ 1000) (hk : ∀ h', Fm h.size h.size h h' → R (.agg (unionM vs).vals.toArray) h') :
    CallsH Tryz.prog 104 #[.slice (some ⟨b, 0, none⟩) vs.length c] h R E := by
  refine C104 ?_
  unfold S104
  refine alloc_rule Tryz.zero146 fun h1 a1 => alloc_rule Tryz.zero146 fun h2 a2 => ?_
  have s1 := a1.size
  have s2 := a2.size
  have lb := at_lt hb
  have f2 : Fm h.size h.size h h2 := (Fm.al a1 (Nat.le_refl _)).trans (Fm.al a2 (by omega))
  rw [reads_rlen Tryz.underlying189]
  refine Loop1.fuel (fun k a h' => ∃ i : Nat, a = .int .i64 i ∧ i ≤ vs.length ∧ k = vs.length - i ∧ Fm h.size h.size h h' ∧ h2.size ≤ h'.size ∧ h'[h1.size]? = some (.cells (unionM (vs.take i)).vals.toArray 146 (0, 0)) ∧ ∃ c2, h'[h.size]? = some (.cells c2 146 (0, 0)) ∧ c2.size = 4)
    (n := vs.length) ⟨0, rfl, by omega, by simp, f2, Nat.le_refl _, a2.at_, _, (a2.old _ (by omega)).trans a1.at_, rfl⟩ fun k a h3 hi => ?_
  obtain ⟨i, rfl, hi, rfl, f3, s3, b3, c2, d3, hc2⟩ := hi
  rw [reads_lt, dec_nn_lt, boolV_bool]
  refine bcase_of (fun hc => ?_) (fun hc => ?_)
  · have hlt : i < vs.length := of_decide_eq_true hc
    rw [reads_idxRow Tryz.underlying189 Tryz.size146 hlt, addr_add, Nat.zero_add]
    refine load_row ((f3.same b lb (by omega)).trans hb) Tryz.agg146 (by simp [setRow_len]; omega) ?_
    rw [List.toList_toArray, setRow_get vs i hlt]
    refine alloc_rule Tryz.zero146 fun h4 a4 => ?_
    have s4 := a4.size
    refine storeFull a4.at_ (xs := vs[i].vals.toArray) Tryz.size146 rfl (flat_vals _) fun h5 u5 => ?_
    have s5 := u5.size
    have f5 : Fm h.size h.size h h5 := (f3.trans (Fm.al a4 (by omega))).trans (Fm.upd u5 (.inl (by omega)))
    have b5 := (u5.other h1.size (by omega)).trans ((a4.old _ (by omega)).trans b3)
    have d5 := (u5.other h.size (by omega)).trans ((a4.old _ (by omega)).trans d3)
    have hok : (unionM (vs.take i)).ok := unionM_ok fun s hs => hv s (List.mem_of_mem_take hs)
    have hti : vs[i].ok := hv _ (List.getElem_mem hlt)
    have hnext : unionM (vs.take (i + 1)) = (unionM (vs.take i)).or vs[i] := by
      unfold unionM
      rw [List.take_add_one, List.getElem?_eq_getElem hlt, List.foldl_append]
      rfl
    generalize unionM (vs.take i) = s at *
    generalize vs[i] = t at *
    refine Loop1.fuel (fun k a h' => ∃ j : Nat, a = .int .i64 j ∧ j ≤ 4 ∧ k = 4 - j ∧ Fm h.size h.size h h' ∧ h2.size ≤ h'.size ∧ h'[h1.size]? = some (.cells (s.orK t j).vals.toArray 146 (0, 0)) ∧ h'[h3.size]? = some (.cells t.vals.toArray 146 (0, 0)) ∧ h'[h.size]? = some (.cells c2 146 (0, 0)))
      (n := 4) ⟨0, rfl, by omega, by omega, f5, by omega, b5, u5.same, d5⟩ fun k a h6 hj => ?_
    obtain ⟨j, rfl, hj, rfl, f6, s6, b6, e6, d6⟩ := hj
    rw [reads_lt, boolV_bool]
    refine bcase_of (fun hc => ?_) (fun hc => ?_)
    · have hj4 : j < 4 := by have := of_decide_eq_true hc; omega
      rw [reads_idxArr Tryz.underlying146 Tryz.size121 hj4, addr_add, Nat.zero_add, Nat.mul_one]
      have fin : ∀ x y : Nat, x < 2 ^ 64 → y < 2 ^ 64 → (s.orK t j).vals.toArray[j]? = some (.int .u64 x) → t.vals.toArray[j]? = some (.int .u64 y) → (s.orK t (j + 1)).vals.toArray = (s.orK t j).vals.toArray.setIfInBounds j (.int .u64 (x ||| y : Nat)) →
          pLoad Tryz.prog 121 (.pointer (some ⟨h1.size, j, none⟩)) h6 fun t18 => Reads Tryz.prog (Instr.indexAt 146 (.pointer (some ⟨h3.size, 0, none⟩)) (.int .i64 j)) h6 fun t20 => pLoad Tryz.prog 121 t20 h6 fun t21 => Reads Tryz.prog (binS .or 121 false t18 t21) h6 fun t22 =>
            Reads Tryz.prog (Instr.indexAt 146 (.pointer (some ⟨h1.size, 0, none⟩)) (.int .i64 j)) h6 fun t23 => (pStore Tryz.prog 121 t23 t22 h6 fun h7 => True ∧ (Reads Tryz.prog (binS .add 3 true (.int .i64 j) (.int .i64 1)) h7 fun t24 =>
              ∃ q, q < 4 - j ∧ ∃ j : Nat, t24 = .int .i64 j ∧ j ≤ 4 ∧ q = 4 - j ∧ Fm h.size h.size h h7 ∧ h2.size ≤ h7.size ∧ h7[h1.size]? = some (.cells (s.orK t j).vals.toArray 146 (0, 0)) ∧ h7[h3.size]? = some (.cells t.vals.toArray 146 (0, 0)) ∧ h7[h.size]? = some (.cells c2 146 (0, 0)))) ∧ True := by
        intro x y hx hy h1' h2' h3'
        rw [pLoad_one (v := .int .u64 x) Tryz.agg121 (by rw [hcell_of b6]; exact h1'), reads_idxArr Tryz.underlying146 Tryz.size121 hj4, addr_add, Nat.zero_add, Nat.mul_one, pLoad_one (v := .int .u64 y) Tryz.agg121 (by rw [hcell_of e6]; exact h2'),
          reads_or, or_val hx hy, reads_idxArr Tryz.underlying146 Tryz.size121 hj4, addr_add, Nat.zero_add, Nat.mul_one]
        refine ⟨?_, trivial⟩
        refine store1 b6 Tryz.size121 rfl (by simp [W4.vals]; omega) fun h7 u7 => ?_
        have s7 := u7.size
        refine ⟨trivial, ?_⟩
        rw [reads_add, wrap_n1 _ (by omega)]
        refine ⟨4 - (j + 1), by omega, j + 1, rfl, by omega, rfl, f6.trans (Fm.upd u7 (.inl (by omega))), by omega, ?_, (u7.other _ (by omega)).trans e6, (u7.other _ (by omega)).trans d6⟩
        rw [u7.same, h3']
      rcases (by omega : j = 0 ∨ j = 1 ∨ j = 2 ∨ j = 3) with e | e | e | e
      · exact fin s.a t.a hok.1 hti.1 (by rw [e]; rfl) (by rw [e]; rfl) (by rw [e]; rfl)
      · exact fin s.b t.b hok.2.1 hti.2.1 (by rw [e]; rfl) (by rw [e]; rfl) (by rw [e]; rfl)
      · exact fin s.c t.c hok.2.2.1 hti.2.2.1 (by rw [e]; rfl) (by rw [e]; rfl) (by rw [e]; rfl)
      · exact fin s.d t.d hok.2.2.2 hti.2.2.2 (by rw [e]; rfl) (by rw [e]; rfl) (by rw [e]; rfl)
    · have hj4 : j = 4 := by have := of_decide_eq_false hc; omega
      subst hj4
      rw [reads_add, wrap_n1 _ (by omega)]
      exact ⟨vs.length - (i + 1), by omega, i + 1, rfl, by omega, rfl, f6, s6, by rw [hnext]; exact b6, c2, d6, hc2⟩
  · have hil : i = vs.length := by have := of_decide_eq_false hc; omega
    subst hil
    rw [List.take_length] at b3
    refine load_all b3 Tryz.agg146 ?_
    refine ret_full d3 Tryz.size146 Tryz.agg146 hc2 (flat_vals _) fun h4 u4 => ?_
    exact hk h4 (f3.trans (Fm.upd u4 (.inl (Nat.le_refl _))))

def rangeW (lo hi : Nat) : W4 := (List.range' lo (hi + 1 - lo)).foldl (fun s b => s.put (u8 b)) .zero
theorem fold_ok : ∀ (l : List Nat) {s : W4}, s.ok → (l.foldl (fun s b => s.put (u8 b)) s).ok
  | [], s, h => h
  | c :: l, s, h => fold_ok l (W4.put_ok h (u8 c))
theorem rangeW_ok (lo hi : Nat) : (rangeW lo hi).ok := fold_ok _ W4.zero_ok
theorem range_spec {lo hi : UInt8} (hk : ∀ h', Fm h.size h.size h h' → R (.agg (rangeW lo.toNat hi.toNat).vals.toArray) h') : CallsH Tryz.prog 111 #[.int .u8 lo.toNat, .int .u8 hi.toNat] h R E := by
  have hlo := lo.toNat_lt
  have hhi := hi.toNat_lt
  refine C111 ?_
  unfold S111
  refine alloc_rule Tryz.zero146 fun h1 a1 => alloc_rule Tryz.zero146 fun h2 a2 => ?_
  have s1 := a1.size
  have s2 := a2.size
  have f2 : Fm h.size h.size h h2 := (Fm.al a1 (Nat.le_refl _)).trans (Fm.al a2 (by omega))
  have cv : ∀ {h' : Heap} {x : Nat} {k : Value → Prop}, x < 256 → Reads Tryz.prog (convert 5 3 (.int .u8 x)) h' k = k (.int .i64 x) := fun hx => by
    rw [reads_conv_int Tryz.underlying5 Tryz.underlying3, wrapN _ _ rfl (by omega)]
  rw [cv hlo]
  refine Loop1.fuel (fun k a h' => ∃ i : Nat, a = .int .i64 i ∧ lo.toNat ≤ i ∧ k + i = 300 ∧ Fm h.size h.size h h' ∧ i ≤ 256 ∧ (i ≤ lo.toNat ∨ i ≤ hi.toNat + 1) ∧ h'.size = h2.size ∧ h'[h1.size]? = some (.cells ((List.range' lo.toNat (i - lo.toNat)).foldl (fun s b => s.put (u8 b)) W4.zero).vals.toArray 146 (0, 0)) ∧ h'[h.size]? = h2[h.size]?)
    (n := 300 - lo.toNat) ⟨lo.toNat, rfl, Nat.le_refl _, by omega, f2, by omega, .inl (Nat.le_refl _), rfl, by rw [Nat.sub_self]; exact a2.at_, rfl⟩ fun k a h3 hi' => ?_
  obtain ⟨i, rfl, hli, hki, f3, hi256, hor, s3, b3, d3⟩ := hi'
  rw [cv hhi, reads_le, dec_nn_le, boolV_bool]
  refine bcase_of (fun hc => ?_) (fun hc => ?_)
  · have hle : i ≤ hi.toNat := of_decide_eq_true hc
    rw [reads_conv_int Tryz.underlying3 Tryz.underlying5, wrap_u8 (by omega), val_u8 (by omega)]
    refine put_spec (fold_ok _ W4.zero_ok) b3 fun h4 u4 => ?_
    have s4 := u4.size
    rw [reads_add, wrap_n1 _ (by omega)]
    refine ⟨k - 1, by omega, i + 1, rfl, by omega, by omega, f3.trans (Fm.upd u4 (.inl (by omega))), by omega, .inr (by omega), by omega, ?_, (u4.other _ (by omega)).trans d3⟩
    rw [u4.same, show i + 1 - lo.toNat = (i - lo.toNat) + 1 by omega, List.range'_concat, List.foldl_append]
    simp only [List.foldl_cons, List.foldl_nil, Nat.one_mul]
    rw [show lo.toNat + (i - lo.toNat) = i by omega]
  · have hgt : hi.toNat < i := by have := of_decide_eq_false hc; omega
    refine load_all b3 Tryz.agg146 ?_
    refine ret_full (d3.trans ((a2.old _ (by omega)).trans a1.at_)) Tryz.size146 Tryz.agg146 rfl (flat_vals _) fun h4 u4 => ?_
    have := hk h4 (f3.trans (Fm.upd u4 (.inl (Nat.le_refl _))))
    unfold rangeW at this
    have e : i - lo.toNat = hi.toNat + 1 - lo.toNat := by omega
    rw [e]
    exact this
end Rt
end Go.Proofs
