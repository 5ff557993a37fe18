/- A part of the proofs over this seat: Sets. -/
import Derived.Test.YthlncmkeccgfeaaGreatDoorFacts
import Derived.Test.YthlncmkeccgfeaaGreatDoorT2a
import Derived.Test.YthlncmkeccgfeaaGreatDoorTree
set_option linter.unusedVariables false
set_option linter.unusedSimpArgs false
set_option maxRecDepth 100000
namespace Go.Proofs
open Go.Vcg
namespace Rt
attribute [local congr] Reads.congr ReadsS.congr pLoad.congr pLoadS.congr pStore.congr Runs.congr CallsH.congr bcase.congr boolV.congr Stable.congr pAlloc.congr
abbrev ptr (r : Nat) : Value := .pointer (some ⟨r, 0, none⟩)

/-! ### Sets of bytes -/
def W4.vals (s : W4) : List Value := [.int .u64 s.a, .int .u64 s.b, .int .u64 s.c, .int .u64 s.d]
def W4.ok (s : W4) : Prop := s.a < 2 ^ 64 ∧ s.b < 2 ^ 64 ∧ s.c < 2 ^ 64 ∧ s.d < 2 ^ 64
def W4.zero : W4 := ⟨0, 0, 0, 0⟩
def W4.put (s : W4) (c : UInt8) : W4 :=
  match c.toNat / 64 with
  | 0 => { s with a := s.a ||| 2 ^ (c.toNat % 64) }
  | 1 => { s with b := s.b ||| 2 ^ (c.toNat % 64) }
  | 2 => { s with c := s.c ||| 2 ^ (c.toNat % 64) }
  | _ => { s with d := s.d ||| 2 ^ (c.toNat % 64) }
theorem lor_lt {x m : Nat} (hx : x < 2 ^ 64) (hm : m < 64) : x ||| 2 ^ m < 2 ^ 64 := Nat.or_lt_two_pow hx (Nat.pow_lt_pow_right (by omega) hm)
theorem W4.put_ok {s : W4} (h : s.ok) (c : UInt8) : (s.put c).ok := by
  have hm : c.toNat % 64 < 64 := Nat.mod_lt _ (by omega)
  unfold W4.put
  obtain ⟨h1, h2, h3, h4⟩ := h
  split
  · exact ⟨lor_lt h1 hm, h2, h3, h4⟩
  · exact ⟨h1, lor_lt h2 hm, h3, h4⟩
  · exact ⟨h1, h2, lor_lt h3 hm, h4⟩
  · exact ⟨h1, h2, h3, lor_lt h4 hm⟩
theorem W4.zero_ok : W4.zero.ok := by refine ⟨?_, ?_, ?_, ?_⟩ <;> exact Nat.two_pow_pos 64

theorem u64_wrap {x : Nat} (hx : x < 2 ^ 64) : IntKind.u64.wrap (x : Int) = (x : Int) := by
  simp only [IntKind.wrap, IntKind.bits, IntKind.signed]
  simp
  omega
theorem or_word {x m : Nat} (hx : x < 2 ^ 64) (hm : m < 64) :
    IntKind.u64.wrap (BitVec.ofInt IntKind.u64.bits (x : Int) ||| BitVec.ofInt IntKind.u64.bits (IntKind.u64.wrap ((1 : Int) * 2 ^ min ((m : Int)).toNat IntKind.u64.bits))).toNat = ((x ||| 2 ^ m : Nat) : Int) := by
  have h2 : (2 : Nat) ^ m < 2 ^ 64 := Nat.pow_lt_pow_right (by omega) hm
  have e0 : min ((m : Int)).toNat IntKind.u64.bits = m := by simp [IntKind.bits]; omega
  have e1 : (1 : Int) * 2 ^ min ((m : Int)).toNat IntKind.u64.bits = ((2 ^ m : Nat) : Int) := by rw [e0]; simp
  rw [e1, u64_wrap h2]
  have e2 : ∀ y : Nat, y < 2 ^ 64 → (BitVec.ofInt IntKind.u64.bits (y : Int)).toNat = y := by
    intro y hy
    simp only [IntKind.bits, BitVec.ofInt_natCast, BitVec.toNat_ofNat]
    exact Nat.mod_eq_of_lt hy
  rw [BitVec.toNat_or, e2 x hx, e2 _ h2]
  exact u64_wrap (Nat.or_lt_two_pow hx h2)
theorem u8_quo (c : UInt8) : IntKind.u8.wrap ((c.toNat : Int).tdiv 64) = ((c.toNat / 64 : Nat) : Int) := by
  have hc := c.toNat_lt
  have e : (c.toNat : Int).tdiv 64 = ((c.toNat / 64 : Nat) : Int) := by rw [Int.tdiv_eq_ediv_of_nonneg (by omega)]; rfl
  rw [e]
  simp only [IntKind.wrap, IntKind.bits, IntKind.signed]
  simp
  omega
theorem u8_rem (c : UInt8) : ((c.toNat : Int).tmod 64) = ((c.toNat % 64 : Nat) : Int) := by
  rw [Int.tmod_eq_emod_of_nonneg (by omega)]; rfl

theorem put_spec {h : Heap} {b : Nat} {s : W4} {c : UInt8} {R : Value → Heap → Prop} {E : List PanicEntry → Heap → Prop} (hs : s.ok)
    (hb : h[b]? = some (.cells s.vals.toArray 33 (0, 0))) (hk : ∀ h', Upd h h' b (.cells (s.put c).vals.toArray 33 (0, 0)) → R (.tuple #[]) h') :
    CallsH Tryz.prog 130 #[ptr b, .int .u8 c.toNat] h R E := by
  refine C130 ?_
  unfold S130
  have hc : c.toNat / 64 < 4 := by have := c.toNat_lt; omega
  have hm : c.toNat % 64 < 64 := Nat.mod_lt _ (by omega)
  have hn : ¬ ((c.toNat % 64 : Nat) : Int) < 0 := by omega
  simp only [boolV_bool, bcase_true, bcase_false, need, reads_nil, pLoad, Tryz.agg31, reads_or, Tryz.size31, reads_quo (by omega : (64 : Int) ≠ 0), reads_rem (by omega : (64 : Int) ≠ 0), u8_rem, reads_shl hn, reads_or, u8_quo, reads_idxArr Tryz.underlying33 Tryz.size31 hc, hcell_of hb, addr_add, hcell_mk, List.getElem?_toArray, List.getElem?_cons_zero, List.getElem?_cons_succ, Option.some.injEq, exists_eq_left', Nat.reduceAdd, Nat.zero_add, Option.isSome_none, Bool.false_eq_true, if_false, Nat.mul_one, true_and, and_true]
  obtain ⟨h1, h2, h3, h4⟩ := hs
  have fin : ∀ (q : Nat) (x : Nat), c.toNat / 64 = q → s.vals[q]? = some (.int .u64 x) → x < 2 ^ 64 → (s.put c).vals.toArray = s.vals.toArray.setIfInBounds q (.int .u64 ((x ||| 2 ^ (c.toNat % 64) : Nat) : Int)) →
      ∃ v, s.vals[c.toNat / 64]? = some v ∧ Reads Tryz.prog (binS BinOp.or 31 false v (Value.int IntKind.u64 (IntKind.u64.wrap ((1 : Int) * 2 ^ min ((c.toNat % 64 : Nat) : Int).toNat IntKind.u64.bits)))) h fun t13 =>
        pStore Tryz.prog 31 (Value.pointer (some { block := b, off := c.toNat / 64 })) t13 h fun h1 => R (Value.tuple #[]) h1 := by
    intro q x hq hx hlt he
    rw [hq]
    refine ⟨_, hx, ?_⟩
    rw [reads_or, or_word hlt hm]
    exact store1 hb Tryz.size31 rfl (by have := (List.getElem?_eq_some_iff.1 hx).1; simpa using this) fun h' hu => hk h' (by rw [he]; exact hu)
  rcases (by omega : c.toNat / 64 = 0 ∨ c.toNat / 64 = 1 ∨ c.toNat / 64 = 2 ∨ c.toNat / 64 = 3) with hq | hq | hq | hq
  · exact fin 0 s.a hq rfl h1 (by simp [W4.put, hq, W4.vals])
  · exact fin 1 s.b hq rfl h2 (by simp [W4.put, hq, W4.vals])
  · exact fin 2 s.c hq rfl h3 (by simp [W4.put, hq, W4.vals])
  · exact fin 3 s.d hq rfl h4 (by simp [W4.put, hq, W4.vals])

def setOf (l : List UInt8) : W4 := l.foldl W4.put .zero
theorem foldl_ok : ∀ (l : List UInt8) {s : W4}, s.ok → (l.foldl W4.put s).ok
  | [], s, h => h
  | c :: l, s, h => foldl_ok l (W4.put_ok h c)

theorem of_spec {h : Heap} {l : List UInt8} {R : Value → Heap → Prop} {E : List PanicEntry → Heap → Prop} (hl : l.length ≤ 4611686018427387904)
    (hk : ∀ h', Fm h.size h.size h h' → R (.agg (setOf l).vals.toArray) h') : CallsH Tryz.prog 120 #[str l] h R E := by
  refine C120 ?_
  unfold S120
  refine alloc_rule Tryz.zero33 fun h1 a1 => alloc_rule Tryz.zero33 fun h2 a2 => ?_
  simp only [boolV_bool, bcase_true, bcase_false, need, Tryz.zero33, reads_lt, reads_add, Tryz.agg33, Tryz.size33, reads_slen Tryz.underlying9, hcell_mk, List.getElem?_toArray, List.getElem?_cons_zero, List.getElem?_cons_succ, Option.some.injEq, exists_eq_left', Nat.reduceAdd, Nat.zero_add, Option.isSome_none, Bool.false_eq_true, if_false]
  have f2 : Fm h.size h.size h h2 := (Fm.al a1 (Nat.le_refl _)).trans (Fm.al a2 (by rw [a1.size]; omega))
  refine Loop1.fuel (Inv := fun k a h' => ∃ i, i ≤ l.length ∧ k = l.length - i ∧ a = .int .i64 i ∧ Fm h.size h.size h h' ∧ h'[h.size]? = some (.cells W4.zero.vals.toArray 33 (0, 0)) ∧ h'[h1.size]? = some (.cells ((l.take i).foldl W4.put .zero).vals.toArray 33 (0, 0)))
    (n := l.length) ⟨0, by omega, by simp, rfl, f2, ?_, ?_⟩ ?_
  · rw [a2.old _ (by rw [a1.size]; omega)]; exact a1.at_
  · exact a2.at_
  · rintro k a h3 ⟨i, hi, rfl, rfl, hf, hb2, hb3⟩
    simp only [reads_lt, boolV_bool]
    refine bcase_of (fun hc => ?_) (fun hc => ?_)
    · have hlt : i < l.length := by have := of_decide_eq_true hc; omega
      rw [reads_sindex Tryz.underlying9 hlt]
      refine put_spec (foldl_ok _ W4.zero_ok) hb3 fun h4 hu => ?_
      rw [reads_add, wrap_n1 _ (by omega)]
      refine ⟨l.length - (i + 1), by omega, i + 1, by omega, rfl, rfl, hf.trans (Fm.upd hu (.inl (by rw [a1.size]; omega))), ?_, ?_⟩
      · rw [hu.other _ (by rw [a1.size]; omega)]; exact hb2
      · rw [hu.same, List.take_add_one, List.foldl_append, List.getElem?_eq_getElem hlt]; rfl
    · have hil : i = l.length := by have := of_decide_eq_false hc; omega
      subst hil
      refine load_all hb3 Tryz.agg33 ?_
      refine ret_full hb2 Tryz.size33 Tryz.agg33 rfl ?_ fun h4 hu => ?_
      · intro v hv
        simp only [W4.vals, List.mem_cons, List.not_mem_nil, or_false] at hv
        rcases hv with rfl | rfl | rfl | rfl <;> rfl
      · rw [List.take_length]
        exact hk h4 (hf.trans (Fm.upd hu (.inl (Nat.le_refl _))))

def single (c : UInt8) : T := .node 1 (setOf [c]) 0 0 0 []
theorem IsRe.leaf {h : Heap} {Q : Nat → Prop} {k : Nat} {s : W4} {mn mx : Int} {g : Nat} : IsRe h Q (.node k s mn mx g []) (reL k s mn mx g (.slice none 0 0)) := by
  simp only [IsRe]
  exact ⟨_, rfl, .inl (by simp)⟩
theorem BytesAt.one {h : Heap} {b : Nat} {c : UInt8} {t : TypeId} (hb : h[b]? = some (.cells #[.int .u8 c.toNat] t (0, 0))) : IsBytes h (.slice (some ⟨b, 0, none⟩) 1 1) [c] := by
  refine .inr ⟨b, 0, 1, rfl, by simp, fun i hi => ?_⟩
  have : i = 0 := by simpa using hi
  subst this
  rw [hcell_of hb]; rfl
theorem single_spec {h : Heap} {c : UInt8} {R : Value → Heap → Prop} {E : List PanicEntry → Heap → Prop}
    (hk : ∀ h', Fm h.size h.size h h' → R (.agg (reL 1 (setOf [c]) 0 0 0 (.slice none 0 0)).toArray) h') : CallsH Tryz.prog 108 #[.int .u8 c.toNat] h R E := by
  refine C108 ?_
  unfold S108
  refine alloc_rule Tryz.zero36 fun h1 a1 => ?_
  refine slice1_rule Tryz.info5 Tryz.underlying29 rfl (by omega) (by omega) fun h2 a2 => ?_
  rw [reads_bstring (BytesAt.one a2.at_) Tryz.underlying29 Tryz.underlying5 Tryz.underlying9]
  refine of_spec (by simp) fun h3 f3 => ?_
  have e : (Value.agg (setOf [c]).vals.toArray) = .agg #[.int .u64 (setOf [c]).a, .int .u64 (setOf [c]).b, .int .u64 (setOf [c]).c, .int .u64 (setOf [c]).d] := rfl
  have f2 : Fm h.size h.size h h3 := ((Fm.al a1 (Nat.le_refl _)).trans (Fm.al a2 (by rw [a1.size]; omega))).trans ⟨f3.size, fun k hk _ => f3.same k (by rw [a2.size, a1.size]; omega) (by rw [a2.size, a1.size]; omega)⟩
  have hb := (f3.same h.size (by rw [a2.size, a1.size]; omega) (by rw [a2.size, a1.size]; omega)).trans ((a2.old h.size (by rw [a1.size]; omega)).trans a1.at_)
  rw [e]
  simp only [boolV_bool, bcase_true, bcase_false, need, Tryz.zero36, Tryz.bd36_0_1, Tryz.size36, Tryz.agg36]
  refine ret_full hb Tryz.size36 Tryz.agg36 rfl ?_ fun h4 hu => hk h4 (f2.trans (Fm.upd hu (.inl (Nat.le_refl _))))
  intro v hv
  simp only [List.mem_cons, List.not_mem_nil, or_false] at hv
  rcases hv with rfl | rfl | rfl | rfl | rfl | rfl | rfl | rfl | rfl <;> rfl
end Rt
end Go.Proofs
