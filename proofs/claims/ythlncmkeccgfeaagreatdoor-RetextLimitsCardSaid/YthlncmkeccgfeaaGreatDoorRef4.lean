/- A part of the proofs over this seat: Ref4. -/
import Derived.Test.YthlncmkeccgfeaaGreatDoorRef1
set_option linter.unusedVariables false
set_option linter.unusedSimpArgs false
set_option maxRecDepth 100000
namespace Go.Vcg
theorem Loop4.fuel {a0 a1 a2 a3 : Value} {h : Heap} {body : (Value → Value → Value → Value → Heap → Prop) → Value → Value → Value → Value → Heap → Prop} (Inv : Nat → Value → Value → Value → Value → Heap → Prop) {n : Nat} (h₀ : Inv n a0 a1 a2 a3 h)
    (hr : ∀ k a c e g h, Inv k a c e g h → body (fun b d f i h' => ∃ j, j < k ∧ Inv j b d f i h') a c e g h) : Loop4 a0 a1 a2 a3 h body := by
  refine Loop4.intro (fun a c e g h => ∃ k, Inv k a c e g h) (fun a c e g h => least fun k => Inv k a c e g h) ⟨n, h₀⟩ fun a c e g h hi => ?_
  have := hr _ a c e g h (least_spec hi).1
  have eq : (fun b d f i h' => ∃ j, j < (least fun k => Inv k a c e g h) ∧ Inv j b d f i h') = fun b d f i h' => (∃ k, Inv k b d f i h') ∧ (least fun k => Inv k b d f i h') < least fun k => Inv k a c e g h := by
    funext b d f i h'
    exact propext least_iff.symm
  rwa [eq] at this
end Go.Vcg
namespace Go.Proofs
open Go.Vcg
namespace Rt
attribute [local congr] Reads.congr ReadsS.congr pLoad.congr pLoadS.congr pStore.congr Runs.congr CallsH.congr bcase.congr boolV.congr Stable.congr pAlloc.congr
variable {S : Glb} {n : Nat} {h : Heap} {r : Nat} {bv : Value} {l : List UInt8} {p : Nat} {R : Value → Heap → Prop} {E : List PanicEntry → Heap → Prop}

def rval (c : UInt8) : Nat := if 48 ≤ c.toNat ∧ c.toNat ≤ 57 then c.toNat - 48 else if 97 ≤ c.toNat ∧ c.toNat ≤ 102 then c.toNat - 87 else if 65 ≤ c.toNat ∧ c.toNat ≤ 70 then c.toNat - 55 else 99
theorem rval_lt {c : UInt8} : decide (10 ≤ rval c) = !isDig c := by
  have : isDig c = decide (48 ≤ c.toNat ∧ c.toNat ≤ 57) := by unfold isDig; rw [Bool.decide_and]
  rw [this, ← decide_not]
  unfold rval
  apply decide_eq_decide.2
  split
  · omega
  split
  · omega
  split <;> omega
theorem rval_dig {c : UInt8} (h : isDig c = true) : rval c = c.toNat - 48 ∧ c.toNat - 48 ≤ 9 := by
  unfold isDig at h
  simp only [Bool.and_eq_true, decide_eq_true_eq] at h
  unfold rval
  rw [if_pos h]
  omega
theorem rvalue_spec {c : UInt8} (hk : R (.int .i64 (rval c)) h) : CallsH Tryz.prog 132 #[.int .u8 c.toNat] h R E := by
  have hc := c.toNat_lt
  refine C132 ?_
  unfold S132
  unfold rval at hk
  have two : ∀ (x y : Nat) (K : Prop) (J : Value → Heap → Prop), J (.bool (decide (x ≤ c.toNat ∧ c.toNat ≤ y))) h →
      Reads Tryz.prog (binS .geq 5 true (.int .u8 c.toNat) (.int .u8 x)) h fun t5 => boolV t5 fun b2 => bcase b2 (Reads Tryz.prog (binS .leq 5 true (.int .u8 c.toNat) (.int .u8 y)) h fun t8 => J t8 h) (J (.bool false) h) := by
    intro x y K J hJ
    rw [reads_ge, dec_nn_le, boolV_bool]
    refine bcase_of (fun h1 => ?_) (fun h1 => ?_)
    · have h1 := of_decide_eq_true h1
      rw [reads_le, dec_nn_le]
      have : decide (c.toNat ≤ y) = decide (x ≤ c.toNat ∧ c.toNat ≤ y) := decide_eq_decide.2 (by omega)
      rw [this]
      exact hJ
    · have h1 := of_decide_eq_false h1
      have : false = decide (x ≤ c.toNat ∧ c.toNat ≤ y) := (decide_eq_false (by omega)).symm
      rw [this]
      exact hJ
  refine Join1.intro (fun v h' => h' = h ∧ v = .bool (decide (48 ≤ c.toNat ∧ c.toNat ≤ 57))) (two 48 57 True (fun v h' => h' = h ∧ v = .bool (decide (48 ≤ c.toNat ∧ c.toNat ≤ 57))) ⟨rfl, rfl⟩) ?_
  rintro v h1 ⟨rfl, rfl⟩
  rw [boolV_bool]
  refine bcase_of (fun h1' => ?_) (fun h1' => ?_)
  · have h1' := of_decide_eq_true h1'
    rw [if_pos h1'] at hk
    rw [reads_sub, show ((c.toNat : Int) - 48) = ((c.toNat - 48 : Nat) : Int) from by omega, wrap_u8 (by omega), reads_conv_int Tryz.underlying5 Tryz.underlying3, wrapN _ _ rfl (by omega)]
    exact hk
  have h1' := of_decide_eq_false h1'
  rw [if_neg h1'] at hk
  refine Join1.intro (fun v h' => h' = h1 ∧ v = .bool (decide (97 ≤ c.toNat ∧ c.toNat ≤ 102))) (two 97 102 True (fun v h' => h' = h1 ∧ v = .bool (decide (97 ≤ c.toNat ∧ c.toNat ≤ 102))) ⟨rfl, rfl⟩) ?_
  rintro v h2 ⟨rfl, rfl⟩
  rw [boolV_bool]
  refine bcase_of (fun h2' => ?_) (fun h2' => ?_)
  · have h2' := of_decide_eq_true h2'
    rw [if_pos h2'] at hk
    rw [reads_sub, show ((c.toNat : Int) - 97) = ((c.toNat - 97 : Nat) : Int) from by omega, wrap_u8 (by omega), reads_conv_int Tryz.underlying5 Tryz.underlying3, wrapN _ _ rfl (by omega), reads_add, wrapN _ (c.toNat - 87) (by omega) (by omega)]
    exact hk
  have h2' := of_decide_eq_false h2'
  rw [if_neg h2'] at hk
  refine Join1.intro (fun v h' => h' = h2 ∧ v = .bool (decide (65 ≤ c.toNat ∧ c.toNat ≤ 70))) (two 65 70 True (fun v h' => h' = h2 ∧ v = .bool (decide (65 ≤ c.toNat ∧ c.toNat ≤ 70))) ⟨rfl, rfl⟩) ?_
  rintro v h3 ⟨rfl, rfl⟩
  rw [boolV_bool]
  refine bcase_of (fun h3' => ?_) (fun h3' => ?_)
  · have h3' := of_decide_eq_true h3'
    rw [if_pos h3'] at hk
    rw [reads_sub, show ((c.toNat : Int) - 65) = ((c.toNat - 65 : Nat) : Int) from by omega, wrap_u8 (by omega), reads_conv_int Tryz.underlying5 Tryz.underlying3, wrapN _ _ rfl (by omega), reads_add, wrapN _ (c.toNat - 55) (by omega) (by omega)]
    exact hk
  · rw [if_neg (of_decide_eq_false h3')] at hk
    exact hk
theorem quoBigU {d : Nat} (hd : d ≤ 9) : ∃ x : Int, 1000 ≤ x ∧ IntKind.u64.wrap ((IntKind.u64.wrap (9223372036854775807 - (d : Int))).tdiv 10) = x := by
  refine ⟨_, ?_, rfl⟩
  rcases (by omega : d = 0 ∨ d = 1 ∨ d = 2 ∨ d = 3 ∨ d = 4 ∨ d = 5 ∨ d = 6 ∨ d = 7 ∨ d = 8 ∨ d = 9) with rfl | rfl | rfl | rfl | rfl | rfl | rfl | rfl | rfl | rfl <;> decide
theorem rdigits_spec {u : Value} (hb : IsBytes h u l) (hl : l.length ≤ 65536) (hk : ∀ (v : Int) (ov : Bool), (dlen l ≤ 3 → v = (dval l (dlen l) : Nat)) → R (.tuple #[.int .i64 v, .int .i64 (dlen l), .bool ov]) h) : CallsH Tryz.prog 122 #[u, .int .i64 10] h R E := by
  have hd := dlen_le l
  refine C122 ?_
  unfold S122
  refine Join0.intro (fun h' => h' = h) ?_ ?_
  · rw [reads_lt, boolV_bool, show decide ((10 : Int) < 2) = false from rfl, bcase_false, reads_gt, boolV_bool, show decide ((16 : Int) < 10) = false from rfl, bcase_false]
  rintro h' rfl
  rw [reads_blen hb Tryz.underlying29]
  have fin : ∀ (v : Int) (ov : Bool), (dlen l ≤ 3 → v = (dval l (dlen l) : Nat) ∧ ov = false) → boolV (.bool ov) fun b7 => bcase b7 (R (.tuple #[.int .i64 9223372036854775807, .int .i64 (dlen l), .bool true]) h') (Reads Tryz.prog (convert 31 2 (.int .u64 v)) h' fun t54 => R (.tuple #[t54, .int .i64 (dlen l), .bool false]) h') := by
    intro v ov hv
    rw [boolV_bool]
    refine bcase_of (fun ho => ?_) (fun ho => ?_)
    · exact hk _ _ fun h3 => by have := (hv h3).2; rw [ho] at this; cases this
    · rw [reads_conv_int Tryz.underlying31 Tryz.underlying2]
      refine hk _ _ fun h3 => ?_
      have e2 := dval_lt (l := l) (i := dlen l) (Nat.le_refl _)
      have e3 : 10 ^ dlen l ≤ 10 ^ 3 := Nat.pow_le_pow_right (by omega) h3
      rw [(hv h3).1, wrapN _ _ rfl (by omega)]
  refine Loop4.fuel (fun k a b c d h'' => h'' = h' ∧ ∃ (v : Int) (i : Nat) (ov : Bool), a = .int .u64 v ∧ b = .bool ov ∧ c = .int .i64 i ∧ d = .int .i64 i ∧ i ≤ dlen l ∧ k = dlen l - i ∧ (i ≤ 3 → v = (dval l i : Nat) ∧ ov = false))
    (n := dlen l) ⟨rfl, 0, 0, false, rfl, rfl, rfl, rfl, by omega, by omega, fun _ => ⟨rfl, rfl⟩⟩ fun k a b c d h2 hi => ?_
  obtain ⟨rfl, v, i, ov, rfl, rfl, rfl, rfl, hi, rfl, hv⟩ := hi
  rw [reads_lt, dec_nn_lt, boolV_bool]
  refine bcase_of (fun hc => ?_) (fun hc => ?_)
  rotate_left
  · have hge : l.length ≤ i := by have := of_decide_eq_false hc; omega
    have e : i = dlen l := by omega
    subst e
    exact fin v ov hv
  have hlt : i < l.length := of_decide_eq_true hc
  refine idx_load hb Tryz.underlying29 Tryz.size5 Tryz.agg5 hlt ?_
  refine rvalue_spec ?_
  have e10 : decide ((10 : Int) ≤ ((rval l[i] : Nat) : Int)) = !isDig l[i] := by rw [← rval_lt]; exact decide_eq_decide.2 (by omega)
  rw [reads_ge, e10, boolV_bool]
  refine bcase_of (fun hg => ?_) (fun hg => ?_)
  · have hnd : isDig l[i] = false := by simpa using hg
    have e : i = dlen l := by
      rcases Nat.lt_or_ge i (dlen l) with h | h
      · rw [dlen_lt hlt h] at hnd; cases hnd
      · omega
    subst e
    exact fin v ov hv
  have hdig : isDig l[i] = true := by simpa using hg
  have hid : i < dlen l := by
    rcases Nat.lt_or_ge i (dlen l) with h | h
    · exact h
    · have e : i = dlen l := by omega
      subst e
      rw [dlen_stop hlt] at hdig
      cases hdig
  obtain ⟨hdg, hd9⟩ := rval_dig hdig
  rw [hdg]
  have next : ∀ (v' : Int) (ov' : Bool), (i + 1 ≤ 3 → v' = (dval l (i + 1) : Nat) ∧ ov' = false) → ∃ j, j < dlen l - i ∧ h2 = h2 ∧ ∃ (w : Int) (i2 : Nat) (ov2 : Bool), Value.int .u64 v' = .int .u64 w ∧ Value.bool ov' = .bool ov2 ∧ Value.int .i64 ((i + 1 : Nat) : Int) = .int .i64 i2 ∧ Value.int .i64 ((i + 1 : Nat) : Int) = .int .i64 i2 ∧ i2 ≤ dlen l ∧ j = dlen l - i2 ∧ (i2 ≤ 3 → w = (dval l i2 : Nat) ∧ ov2 = false) :=
    fun v' ov' hh => ⟨_, by omega, rfl, v', i + 1, ov', rfl, rfl, rfl, rfl, by omega, rfl, hh⟩
  have e2 := dval_lt (l := l) (i := i) (by omega)
  rw [reads_add, wrap_n1 _ (by omega)]
  refine Join1.intro (fun w h' => h' = h2 ∧ w = .bool false ∧ ov = false) ?_ ?_
  · rw [boolV_bool]
    refine bcase_of (fun ho => ?_) (fun ho => ?_)
    · rw [reads_add, wrap_n1 _ (by omega)]
      refine next _ _ fun h3 => ?_
      have := (hv (by omega)).2
      rw [ho] at this
      cases this
    · rw [reads_conv_int Tryz.underlying3 Tryz.underlying31, wrap_u64 (by omega), reads_sub, reads_conv_int Tryz.underlying3 Tryz.underlying31, show IntKind.u64.wrap 10 = 10 from by decide, reads_quo (by decide)]
      obtain ⟨x, hx, ex⟩ := quoBigU hd9
      rw [ex, reads_gt, boolV_bool]
      refine bcase_of (fun hg => ?_) (fun hg => ⟨rfl, by rw [ho], ho⟩)
      have hg := of_decide_eq_true hg
      rw [reads_add, wrap_n1 _ (by omega)]
      refine next _ _ fun h3 => ?_
      have e1 := (hv (by omega)).1
      have e3 : 10 ^ i ≤ 10 ^ 2 := Nat.pow_le_pow_right (by omega) (by omega)
      omega
  rintro w h4 ⟨rfl, rfl, ho⟩
  rw [reads_conv_int Tryz.underlying3 Tryz.underlying31, show IntKind.u64.wrap 10 = 10 from by decide, reads_mul, reads_conv_int Tryz.underlying3 Tryz.underlying31, wrap_u64 (by omega), reads_add, reads_add, wrap_n1 _ (by omega)]
  refine next _ _ fun h3 => ⟨?_, rfl⟩
  obtain ⟨e1, e0⟩ := hv (by omega)
  have e3 : 10 ^ i ≤ 10 ^ 2 := Nat.pow_le_pow_right (by omega) (by omega)
  have w1 : IntKind.u64.wrap ((dval l i : Int) * 10) = ((dval l i * 10 : Nat) : Int) := by rw [show ((dval l i : Int) * 10) = ((dval l i * 10 : Nat) : Int) from by omega, wrap_u64 (by omega)]
  have w2 : IntKind.u64.wrap (((dval l i * 10 : Nat) : Int) + ((l[i].toNat - 48 : Nat) : Int)) = ((dval l i * 10 + (l[i].toNat - 48) : Nat) : Int) := by rw [← Int.natCast_add, wrap_u64 (by omega)]
  rw [e1, w1, w2, dval_succ hlt]
def rangeK (lo k : Nat) : W4 := (List.range' lo (k - lo)).foldl (fun s b => s.put (u8 b)) .zero
theorem rangeK_ok (lo k : Nat) : (rangeK lo k).ok := fold_ok _ W4.zero_ok
theorem rangeK_next {lo k : Nat} (h : lo ≤ k) : rangeK lo (k + 1) = (rangeK lo k).put (u8 k) := by
  unfold rangeK
  rw [show k + 1 - lo = (k - lo) + 1 from by omega, List.range'_concat, List.foldl_append]
  simp only [List.foldl_cons, List.foldl_nil]
  congr 2
  omega
theorem rrange_spec {lo hi : UInt8} (hk : ∀ h', Fm h.size h.size h h' → R (.agg (rangeW lo.toNat hi.toNat).vals.toArray) h') : CallsH Tryz.prog 94 #[.int .u8 lo.toNat, .int .u8 hi.toNat] h R E := by
  have hlo := lo.toNat_lt
  have hhi := hi.toNat_lt
  refine C94 ?_
  unfold S94
  refine alloc_rule Tryz.zero33 fun h1 a1 => ?_
  rw [Tryz.bd33]
  refine alloc_rule Tryz.zero33 fun h2 a2 => ?_
  have s1 := a1.size
  have s2 := a2.size
  refine putSet (s := W4.zero) a2.at_ rfl fun h3 u3 => ?_
  have s3 := u3.size
  have f3 : Fm h.size h.size h h3 := (Fm.al a1 (Nat.le_refl _)).trans ((Fm.al a2 (by omega)).trans (Fm.upd u3 (.inl (by omega))))
  have b3 := (u3.other h.size (by omega)).trans ((a2.old _ (by omega)).trans a1.at_)
  have z0 : rangeK lo.toNat 0 = W4.zero := by unfold rangeK; simp
  refine Loop1.fuel (fun k a h' => ∃ i : Nat, i ≤ 256 ∧ k = 256 - i ∧ a = .int .i64 i ∧ Fm h.size h.size h h' ∧ h3.size ≤ h'.size ∧ At h' h1.size (rangeK lo.toNat (min i (hi.toNat + 1))) ∧ ∃ c2, h'[h.size]? = some (.cells c2 33 (0, 0)) ∧ c2.size = 4)
    (n := 256) ⟨0, by omega, rfl, rfl, f3, Nat.le_refl _, by rw [Nat.zero_min, z0]; exact u3.same, _, b3, rfl⟩ fun k a h4 hi4 => ?_
  obtain ⟨i, hi1, rfl, rfl, f4, s4, a4, c2, b4, hc2⟩ := hi4
  rw [reads_lt, show (256 : Int) = ((256 : Nat) : Int) from rfl, dec_nn_lt, boolV_bool]
  refine bcase_of (fun hc => ?_) (fun hc => ?_)
  · have hlt : i < 256 := of_decide_eq_true hc
    refine Join1.intro (fun v h' => h' = h4 ∧ v = .bool (decide (lo.toNat ≤ i ∧ i ≤ hi.toNat))) ?_ ?_
    · rw [reads_conv_int Tryz.underlying3 Tryz.underlying5, wrap_u8 (by omega), reads_ge, dec_nn_le, boolV_bool]
      refine bcase_of (fun h5 => ?_) (fun h5 => ?_)
      · have h5 := of_decide_eq_true h5
        rw [reads_conv_int Tryz.underlying3 Tryz.underlying5, wrap_u8 (by omega), reads_le, dec_nn_le]
        exact ⟨rfl, by congr 1; exact decide_eq_decide.2 (by omega)⟩
      · have h5 := of_decide_eq_false h5
        exact ⟨rfl, by rw [decide_eq_false (by omega)]⟩
    rintro v h5 ⟨rfl, rfl⟩
    rw [boolV_bool]
    refine bcase_of (fun h6 => ?_) (fun h6 => ?_)
    · have h6 := of_decide_eq_true h6
      refine getSet a4 ?_
      rw [reads_conv_int Tryz.underlying3 Tryz.underlying5, wrap_u8 (by omega), val_u8 (by omega)]
      refine add_spec (rangeK_ok _ _) fun h7 f7 => ?_
      have s7 := f7.size
      refine putSet ((f7.same _ (by omega) (by omega)).trans a4) rfl fun h8 u8' => ?_
      have s8 := u8'.size
      rw [reads_add, wrap_n1 _ (by omega)]
      refine ⟨256 - (i + 1), by omega, i + 1, by omega, rfl, rfl, f4.trans ((Fm.lift f7 (by omega) (by omega)).trans (Fm.upd u8' (.inl (by omega)))), by omega, ?_, c2, (u8'.other _ (by omega)).trans ((f7.same _ (by omega) (by omega)).trans b4), hc2⟩
      have e1 : min i (hi.toNat + 1) = i := by omega
      have e2 : min (i + 1) (hi.toNat + 1) = i + 1 := by omega
      rw [e2, rangeK_next h6.1]
      have := u8'.same
      rw [e1] at this
      exact this
    · have h6 := of_decide_eq_false h6
      rw [reads_add, wrap_n1 _ (by omega)]
      refine ⟨256 - (i + 1), by omega, i + 1, by omega, rfl, rfl, f4, s4, ?_, c2, b4, hc2⟩
      have e : rangeK lo.toNat (min (i + 1) (hi.toNat + 1)) = rangeK lo.toNat (min i (hi.toNat + 1)) := by
        unfold rangeK
        rw [show min (i + 1) (hi.toNat + 1) - lo.toNat = min i (hi.toNat + 1) - lo.toNat from by omega]
      rw [e]
      exact a4
  · have hi' : i = 256 := by have := of_decide_eq_false hc; omega
    subst hi'
    have e : rangeK lo.toNat (min 256 (hi.toNat + 1)) = rangeW lo.toNat hi.toNat := by
      unfold rangeK rangeW
      rw [show min 256 (hi.toNat + 1) = hi.toNat + 1 from by omega]
    rw [e] at a4
    refine getSet a4 ?_
    refine ret_full b4 Tryz.size33 Tryz.agg33 hc2 (flat_vals _) fun h8 u8' => ?_
    exact hk h8 (f4.trans (Fm.upd u8' (.inl (by omega))))
end Rt
end Go.Proofs

set_option maxRecDepth 100000
namespace Go.Proofs
open Go.Vcg
namespace Rt
attribute [local congr] Reads.congr ReadsS.congr pLoad.congr pLoadS.congr pStore.congr Runs.congr CallsH.congr bcase.congr boolV.congr Stable.congr pAlloc.congr
variable {S : Glb} {n : Nat} {h : Heap} {r : Nat} {bv : Value} {l : List UInt8} {p : Nat} {R : Value → Heap → Prop} {E : List PanicEntry → Heap → Prop}

def clsTail (t0 t2 t4 t5 t6 t7 t8 : Value) (R : Value → Heap → Prop) (E : List PanicEntry → Heap → Prop) (h17 : Heap) : Prop :=
  Reads Tryz.prog (binS .eql 9 true t0 (str [97, 108, 112, 104, 97])) h17 fun t20 =>
  boolV t20 fun b2 => bcase b2 (
    pLoad Tryz.prog 33 t4 h17 fun t21 =>
    pLoad Tryz.prog 33 t5 h17 fun t22 =>
    CallsH Tryz.prog 93 #[t21, t22] h17 (fun t23 h18 =>
    pStore Tryz.prog 33 t2 t23 h18 fun h19 =>
    pLoad Tryz.prog 33 t2 h19 fun r3 => R (.tuple #[r3, (.bool true)]) h19) E) (
    Reads Tryz.prog (binS .eql 9 true t0 (str [100, 105, 103, 105, 116])) h17 fun t25 =>
    boolV t25 fun b4 => bcase b4 (
      pLoad Tryz.prog 33 t6 h17 fun t26 =>
      pStore Tryz.prog 33 t2 t26 h17 fun h20 =>
      pLoad Tryz.prog 33 t2 h20 fun r5 => R (.tuple #[r5, (.bool true)]) h20) (
      Reads Tryz.prog (binS .eql 9 true t0 (str [97, 108, 110, 117, 109])) h17 fun t28 =>
      boolV t28 fun b6 => bcase b6 (
        pLoad Tryz.prog 33 t8 h17 fun t29 =>
        pStore Tryz.prog 33 t2 t29 h17 fun h21 =>
        pLoad Tryz.prog 33 t2 h21 fun r7 => R (.tuple #[r7, (.bool true)]) h21) (
        Reads Tryz.prog (binS .eql 9 true t0 (str [117, 112, 112, 101, 114])) h17 fun t31 =>
        boolV t31 fun b8 => bcase b8 (
          pLoad Tryz.prog 33 t5 h17 fun t32 =>
          pStore Tryz.prog 33 t2 t32 h17 fun h22 =>
          pLoad Tryz.prog 33 t2 h22 fun r9 => R (.tuple #[r9, (.bool true)]) h22) (
          Reads Tryz.prog (binS .eql 9 true t0 (str [108, 111, 119, 101, 114])) h17 fun t34 =>
          boolV t34 fun b10 => bcase b10 (
            pLoad Tryz.prog 33 t4 h17 fun t35 =>
            pStore Tryz.prog 33 t2 t35 h17 fun h23 =>
            pLoad Tryz.prog 33 t2 h23 fun r11 => R (.tuple #[r11, (.bool true)]) h23) (
            Reads Tryz.prog (binS .eql 9 true t0 (str [115, 112, 97, 99, 101])) h17 fun t37 =>
            boolV t37 fun b12 => bcase b12 (
              CallsH Tryz.prog 94 #[(.int .u8 9), (.int .u8 13)] h17 (fun t38 h24 =>
              CallsH Tryz.prog 94 #[(.int .u8 32), (.int .u8 32)] h24 (fun t39 h25 =>
              CallsH Tryz.prog 93 #[t38, t39] h25 (fun t40 h26 =>
              pStore Tryz.prog 33 t2 t40 h26 fun h27 =>
              pLoad Tryz.prog 33 t2 h27 fun r13 => R (.tuple #[r13, (.bool true)]) h27) E) E) E) (
              Reads Tryz.prog (binS .eql 9 true t0 (str [98, 108, 97, 110, 107])) h17 fun t42 =>
              boolV t42 fun b14 => bcase b14 (
                CallsH Tryz.prog 94 #[(.int .u8 9), (.int .u8 9)] h17 (fun t43 h28 =>
                CallsH Tryz.prog 94 #[(.int .u8 32), (.int .u8 32)] h28 (fun t44 h29 =>
                CallsH Tryz.prog 93 #[t43, t44] h29 (fun t45 h30 =>
                pStore Tryz.prog 33 t2 t45 h30 fun h31 =>
                pLoad Tryz.prog 33 t2 h31 fun r15 => R (.tuple #[r15, (.bool true)]) h31) E) E) E) (
                Reads Tryz.prog (binS .eql 9 true t0 (str [112, 114, 105, 110, 116])) h17 fun t47 =>
                boolV t47 fun b16 => bcase b16 (
                  Stable h17 fun S17 =>
                  pLoadS Tryz.prog 33 t7 S17 fun t48 =>
                  (CallsH Tryz.prog 94 #[(.int .u8 32), (.int .u8 32)] h17 (fun t49 h32 =>
                  S17 h32 ∧ ((CallsH Tryz.prog 93 #[t48, t49] h32 (fun t50 h33 =>
                  True ∧ ((pStore Tryz.prog 33 t2 t50 h33 fun h34 =>
                  True ∧ (pLoad Tryz.prog 33 t2 h34 fun r18 => R (.tuple #[r18, (.bool true)]) h34)) ∧ True)) E) ∧ True)) E) ∧ True) (
                  Reads Tryz.prog (binS .eql 9 true t0 (str [103, 114, 97, 112, 104])) h17 fun t52 =>
                  boolV t52 fun b19 => bcase b19 (
                    pLoad Tryz.prog 33 t7 h17 fun t53 =>
                    pStore Tryz.prog 33 t2 t53 h17 fun h35 =>
                    pLoad Tryz.prog 33 t2 h35 fun r20 => R (.tuple #[r20, (.bool true)]) h35) (
                    Reads Tryz.prog (binS .eql 9 true t0 (str [112, 117, 110, 99, 116])) h17 fun t55 =>
                    boolV t55 fun b21 => bcase b21 (
                      Stable h17 fun S22 =>
                      pLoadS Tryz.prog 33 t7 S22 fun t56 =>
                      pLoadS Tryz.prog 33 t8 S22 fun t58 =>
                      (CallsH Tryz.prog 46 #[t56] h17 (fun t57 h36 =>
                      S22 h36 ∧ ((CallsH Tryz.prog 93 #[t57, t58] h36 (fun t59 h37 =>
                      True ∧ ((CallsH Tryz.prog 46 #[t59] h37 (fun t60 h38 =>
                      True ∧ ((pStore Tryz.prog 33 t2 t60 h38 fun h39 =>
                      True ∧ (pLoad Tryz.prog 33 t2 h39 fun r23 => R (.tuple #[r23, (.bool true)]) h39)) ∧ True)) E) ∧ True)) E) ∧ True)) E) ∧ True) (
                      Reads Tryz.prog (binS .eql 9 true t0 (str [99, 110, 116, 114, 108])) h17 fun t62 =>
                      boolV t62 fun b24 => bcase b24 (
                        CallsH Tryz.prog 94 #[(.int .u8 0), (.int .u8 31)] h17 (fun t63 h40 =>
                        CallsH Tryz.prog 94 #[(.int .u8 127), (.int .u8 127)] h40 (fun t64 h41 =>
                        CallsH Tryz.prog 93 #[t63, t64] h41 (fun t65 h42 =>
                        pStore Tryz.prog 33 t2 t65 h42 fun h43 =>
                        pLoad Tryz.prog 33 t2 h43 fun r25 => R (.tuple #[r25, (.bool true)]) h43) E) E) E) (
                        Reads Tryz.prog (binS .eql 9 true t0 (str [120, 100, 105, 103, 105, 116])) h17 fun t67 =>
                        boolV t67 fun b26 => bcase b26 (
                          Stable h17 fun S27 =>
                          pLoadS Tryz.prog 33 t6 S27 fun t68 =>
                          (CallsH Tryz.prog 94 #[(.int .u8 97), (.int .u8 102)] h17 (fun t69 h44 =>
                          S27 h44 ∧ ((CallsH Tryz.prog 94 #[(.int .u8 65), (.int .u8 70)] h44 (fun t70 h45 =>
                          S27 h45 ∧ ((CallsH Tryz.prog 93 #[t69, t70] h45 (fun t71 h46 =>
                          S27 h46 ∧ ((CallsH Tryz.prog 93 #[t68, t71] h46 (fun t72 h47 =>
                          True ∧ ((pStore Tryz.prog 33 t2 t72 h47 fun h48 =>
                          True ∧ (pLoad Tryz.prog 33 t2 h48 fun r28 => R (.tuple #[r28, (.bool true)]) h48)) ∧ True)) E) ∧ True)) E) ∧ True)) E) ∧ True)) E) ∧ True) (
                          Reads Tryz.prog (Instr.build 33 #[]) h17 fun t73 =>
  pStore Tryz.prog 33 t2 t73 h17 fun h49 =>
  pLoad Tryz.prog 33 t2 h49 fun r29 => R (.tuple #[r29, (.bool false)]) h49))))))))))))

def rAlnum : W4 := (cLower.or cUpper).or cDigit
theorem okR (a b : Nat) : (rangeW a b).ok := rangeW_ok a b
theorem clsTail_spec {h17 : Heap} {b4 b5 b6 b7 b8 : Nat} {c2 : Array Value} (f : Fm h.size h.size h h17) (r2 : h17[h.size]? = some (.cells c2 33 (0, 0))) (z2 : c2.size = 4) (a4 : At h17 b4 cLower) (a5 : At h17 b5 cUpper) (a6 : At h17 b6 cDigit) (a7 : At h17 b7 cGraph) (a8 : At h17 b8 rAlnum)
    (hk : ∀ h', Fm h.size h.size h h' → R (classV l) h') :
    clsTail (str l) (.pointer (some ⟨h.size, 0, none⟩)) (.pointer (some ⟨b4, 0, none⟩)) (.pointer (some ⟨b5, 0, none⟩)) (.pointer (some ⟨b6, 0, none⟩)) (.pointer (some ⟨b7, 0, none⟩)) (.pointer (some ⟨b8, 0, none⟩)) R E h17 := by
  have s17 := f.size
  have lt2 := at_lt r2
  have l6 := at_lt a6
  have l7 := at_lt a7
  have l8 := at_lt a8
  have fin : ∀ {h' : Heap} {s : W4} {b : Bool}, Fm h17.size h17.size h17 h' → classV l = .tuple #[.agg s.vals.toArray, .bool b] → pStore Tryz.prog 33 (.pointer (some ⟨h.size, 0, none⟩)) (.agg s.vals.toArray) h' fun h9 => pLoad Tryz.prog 33 (.pointer (some ⟨h.size, 0, none⟩)) h9 fun r7 => R (.tuple #[r7, .bool b]) h9 := by
    intro h' s b f' e
    have s' := f'.size
    refine putSet ((f'.same _ lt2 (by omega)).trans r2) z2 fun h9 u9 => ?_
    refine getSet u9.same ?_
    rw [← e]
    exact hk h9 (f.trans ((Fm.lift f' (by omega) (by omega)).trans (Fm.upd u9 (.inl (Nat.le_refl _)))))
  have finT : ∀ {h' : Heap} {s : W4} {b : Bool}, Fm h17.size h17.size h17 h' → classV l = .tuple #[.agg s.vals.toArray, .bool b] → pStore Tryz.prog 33 (.pointer (some ⟨h.size, 0, none⟩)) (.agg s.vals.toArray) h' fun h9 => True ∧ pLoad Tryz.prog 33 (.pointer (some ⟨h.size, 0, none⟩)) h9 fun r7 => R (.tuple #[r7, .bool b]) h9 :=
    fun f' e => pStore_mono (fun _ x => ⟨trivial, x⟩) (fin f' e)
  have f0 := Fm.refl h17.size h17.size h17
  have two : ∀ {a b c d : UInt8} {K : Value → Heap → Prop}, (∀ h', Fm h17.size h17.size h17 h' → K (.agg ((rangeW a.toNat b.toNat).or (rangeW c.toNat d.toNat)).vals.toArray) h') →
      CallsH Tryz.prog 94 #[.int .u8 a.toNat, .int .u8 b.toNat] h17 (fun t38 h24 => CallsH Tryz.prog 94 #[.int .u8 c.toNat, .int .u8 d.toNat] h24 (fun t39 h25 => CallsH Tryz.prog 93 #[t38, t39] h25 K E) E) E := by
    intro a b c d K hK
    refine rrange_spec fun h24 f24 => rrange_spec fun h25 f25 => ?_
    have s24 := f24.size
    have s25 := f25.size
    refine ror_spec (okR _ _) (okR _ _) fun h26 f26 => ?_
    exact hK h26 (f24.trans ((Fm.lift f25 (by omega) (by omega)).trans (Fm.lift f26 (by omega) (by omega))))
  unfold clsTail
  rw [reads_seq, boolV_bool]
  refine bcase_of (fun hc => ?_) (fun n1 => ?_)
  · obtain rfl : l = _ := of_decide_eq_true hc
    refine getSet a4 (getSet a5 (ror_spec (okR _ _) (okR _ _) fun h18 f18 => fin f18 ?_))
    kernel_rfl
  rw [reads_seq, boolV_bool]
  refine bcase_of (fun hc => ?_) (fun n2 => ?_)
  · obtain rfl : l = _ := of_decide_eq_true hc
    refine getSet a6 (fin f0 ?_)
    kernel_rfl
  rw [reads_seq, boolV_bool]
  refine bcase_of (fun hc => ?_) (fun n3 => ?_)
  · obtain rfl : l = _ := of_decide_eq_true hc
    refine getSet a8 (fin f0 ?_)
    kernel_rfl
  rw [reads_seq, boolV_bool]
  refine bcase_of (fun hc => ?_) (fun n4 => ?_)
  · obtain rfl : l = _ := of_decide_eq_true hc
    refine getSet a5 (fin f0 ?_)
    kernel_rfl
  rw [reads_seq, boolV_bool]
  refine bcase_of (fun hc => ?_) (fun n5 => ?_)
  · obtain rfl : l = _ := of_decide_eq_true hc
    refine getSet a4 (fin f0 ?_)
    kernel_rfl
  rw [reads_seq, boolV_bool]
  refine bcase_of (fun hc => ?_) (fun n6 => ?_)
  · obtain rfl : l = _ := of_decide_eq_true hc
    refine two (a := 9) (b := 13) (c := 32) (d := 32) fun h26 f26 => fin f26 ?_
    kernel_rfl
  rw [reads_seq, boolV_bool]
  refine bcase_of (fun hc => ?_) (fun n7 => ?_)
  · obtain rfl : l = _ := of_decide_eq_true hc
    refine two (a := 9) (b := 9) (c := 32) (d := 32) fun h26 f26 => fin f26 ?_
    kernel_rfl
  rw [reads_seq, boolV_bool]
  refine bcase_of (fun hc => ?_) (fun n8 => ?_)
  · obtain rfl : l = _ := of_decide_eq_true hc
    refine ⟨fun h' => At h' b7 cGraph, a7, getSetS (fun h' hh => hh) ⟨rrange_spec (lo := 32) (hi := 32) fun h32 f32 => ?_, trivial⟩⟩
    have s32 := f32.size
    refine ⟨(f32.same _ l7 (by omega)).trans a7, ror_spec (okR _ _) (okR _ _) fun h33 f33 => ⟨trivial, finT (f32.trans (Fm.lift f33 (by omega) (by omega))) ?_, trivial⟩, trivial⟩
    kernel_rfl
  rw [reads_seq, boolV_bool]
  refine bcase_of (fun hc => ?_) (fun n9 => ?_)
  · obtain rfl : l = _ := of_decide_eq_true hc
    refine getSet a7 (fin f0 ?_)
    kernel_rfl
  rw [reads_seq, boolV_bool]
  refine bcase_of (fun hc => ?_) (fun n10 => ?_)
  · obtain rfl : l = _ := of_decide_eq_true hc
    refine ⟨fun h' => At h' b7 cGraph ∧ At h' b8 rAlnum, ⟨a7, a8⟩, getSetS (fun h' hh => hh.1) (getSetS (fun h' hh => hh.2) ⟨rnot_spec (okR _ _) fun h36 f36 => ?_, trivial⟩)⟩
    have s36 := f36.size
    refine ⟨⟨(f36.same _ l7 (by omega)).trans a7, (f36.same _ l8 (by omega)).trans a8⟩, ror_spec (W4.not_ok _) (W4.or_ok (W4.or_ok (okR _ _) (okR _ _)) (okR _ _)) fun h37 f37 => ?_, trivial⟩
    have s37 := f37.size
    refine ⟨trivial, rnot_spec (W4.or_ok (W4.not_ok _) (W4.or_ok (W4.or_ok (okR _ _) (okR _ _)) (okR _ _))) fun h38 f38 => ⟨trivial, finT (f36.trans ((Fm.lift f37 (by omega) (by omega)).trans (Fm.lift f38 (by omega) (by omega)))) ?_, trivial⟩, trivial⟩
    kernel_rfl
  rw [reads_seq, boolV_bool]
  refine bcase_of (fun hc => ?_) (fun n11 => ?_)
  · obtain rfl : l = _ := of_decide_eq_true hc
    refine two (a := 0) (b := 31) (c := 127) (d := 127) fun h26 f26 => fin f26 ?_
    kernel_rfl
  rw [reads_seq, boolV_bool]
  refine bcase_of (fun hc => ?_) (fun n12 => ?_)
  · obtain rfl : l = _ := of_decide_eq_true hc
    refine ⟨fun h' => At h' b6 cDigit, a6, getSetS (fun h' hh => hh) ⟨rrange_spec (lo := 97) (hi := 102) fun h44 f44 => ?_, trivial⟩⟩
    have s44 := f44.size
    refine ⟨(f44.same _ l6 (by omega)).trans a6, rrange_spec (lo := 65) (hi := 70) fun h45 f45 => ?_, trivial⟩
    have s45 := f45.size
    have f445 := f44.trans (Fm.lift (n := h17.size) (r := h17.size) f45 (by omega) (by omega))
    refine ⟨(f445.same _ l6 (by omega)).trans a6, ror_spec (okR _ _) (okR _ _) fun h46 f46 => ?_, trivial⟩
    have s46 := f46.size
    have f446 := f445.trans (Fm.lift (n := h17.size) (r := h17.size) f46 (by omega) (by omega))
    refine ⟨(f446.same _ l6 (by omega)).trans a6, ror_spec (okR _ _) (W4.or_ok (okR _ _) (okR _ _)) fun h47 f47 => ⟨trivial, finT (f446.trans (Fm.lift f47 (by omega) (by omega))) ?_, trivial⟩, trivial⟩
    kernel_rfl
  rw [Tryz.bd33]
  refine fin (s := W4.zero) f0 ?_
  have q := fun {m : List UInt8} (hm : decide (l = m) = false) => of_decide_eq_false hm
  unfold classV classM
  rw [if_neg (q n3), if_neg (q n1), if_neg (q n2), if_neg (q n4), if_neg (q n5), if_neg (q n6), if_neg (q n7), if_neg (q n8), if_neg (q n9), if_neg (q n10), if_neg (q n11), if_neg (q n12)]
end Rt
end Go.Proofs

set_option maxRecDepth 100000
namespace Go.Proofs
open Go.Vcg
namespace Rt
attribute [local congr] Reads.congr ReadsS.congr pLoad.congr pLoadS.congr pStore.congr Runs.congr CallsH.congr bcase.congr boolV.congr Stable.congr pAlloc.congr
variable {S : Glb} {n : Nat} {h : Heap} {r : Nat} {bv : Value} {l : List UInt8} {p : Nat} {R : Value → Heap → Prop} {E : List PanicEntry → Heap → Prop}

theorem rclass_spec (hk : ∀ h', Fm h.size h.size h h' → R (classV l) h') : CallsH Tryz.prog 111 #[str l] h R E := by
  refine C111 ?_
  unfold S111
  refine alloc_rule Tryz.zero33 fun h1 a1 => ?_
  have s1 := a1.size
  refine rrange_spec (lo := 97) (hi := 122) fun h2 f2 => rrange_spec (lo := 65) (hi := 90) fun h3 f3 => rrange_spec (lo := 48) (hi := 57) fun h4 f4 => rrange_spec (lo := 33) (hi := 126) fun h5 f5 => ?_
  have s2 := f2.size
  have s3 := f3.size
  have s4 := f4.size
  have s5 := f5.size
  have f05 : Fm h.size h.size h h5 := (Fm.al a1 (Nat.le_refl _)).trans ((Fm.lift f2 (by omega) (by omega)).trans ((Fm.lift f3 (by omega) (by omega)).trans ((Fm.lift f4 (by omega) (by omega)).trans (Fm.lift f5 (by omega) (by omega)))))
  have r5 : h5[h.size]? = h1[h.size]? := by rw [f5.same _ (by omega) (by omega), f4.same _ (by omega) (by omega), f3.same _ (by omega) (by omega), f2.same _ (by omega) (by omega)]
  refine alloc_rule Tryz.zero33 fun h6 a6 => alloc_rule Tryz.zero33 fun h7 a7 => alloc_rule Tryz.zero33 fun h8 a8 => alloc_rule Tryz.zero33 fun h9 a9 => ?_
  have s6 := a6.size
  have s7 := a7.size
  have s8 := a8.size
  have s9 := a9.size
  refine putSet (s := cLower) ((a9.old _ (by omega)).trans ((a8.old _ (by omega)).trans ((a7.old _ (by omega)).trans a6.at_))) rfl fun h10 u10 => ?_
  have s10 := u10.size
  refine putSet (s := cUpper) ((u10.other _ (by omega)).trans ((a9.old _ (by omega)).trans ((a8.old _ (by omega)).trans a7.at_))) rfl fun h11 u11 => ?_
  have s11 := u11.size
  refine putSet (s := cDigit) ((u11.other _ (by omega)).trans ((u10.other _ (by omega)).trans ((a9.old _ (by omega)).trans a8.at_))) rfl fun h12 u12 => ?_
  have s12 := u12.size
  refine putSet (s := cGraph) ((u12.other _ (by omega)).trans ((u11.other _ (by omega)).trans ((u10.other _ (by omega)).trans a9.at_))) rfl fun h13 u13 => ?_
  have s13 := u13.size
  have f13 : Fm h.size h.size h h13 := f05.trans ((Fm.al a6 (by omega)).trans ((Fm.al a7 (by omega)).trans ((Fm.al a8 (by omega)).trans ((Fm.al a9 (by omega)).trans ((Fm.upd u10 (.inl (by omega))).trans ((Fm.upd u11 (.inl (by omega))).trans ((Fm.upd u12 (.inl (by omega))).trans (Fm.upd u13 (.inl (by omega))))))))))
  have b4 : At h13 h5.size cLower := (u13.other _ (by omega)).trans ((u12.other _ (by omega)).trans ((u11.other _ (by omega)).trans u10.same))
  have b5 : At h13 h6.size cUpper := (u13.other _ (by omega)).trans ((u12.other _ (by omega)).trans u11.same)
  have b6 : At h13 h7.size cDigit := (u13.other _ (by omega)).trans u12.same
  have b7 : At h13 h8.size cGraph := u13.same
  have r13 : h13[h.size]? = some (.cells (Value.agg #[.int .u64 0, .int .u64 0, .int .u64 0, .int .u64 0]).cells 33 (0, 0)) := by
    rw [u13.other _ (by omega), u12.other _ (by omega), u11.other _ (by omega), u10.other _ (by omega), a9.old _ (by omega), a8.old _ (by omega), a7.old _ (by omega), a6.old _ (by omega), r5]
    exact a1.at_
  have keep : ∀ {h'}, Fm h13.size h13.size h13 h' → At h' h5.size cLower ∧ At h' h6.size cUpper ∧ At h' h7.size cDigit := fun f => ⟨(f.same _ (by omega) (by omega)).trans b4, (f.same _ (by omega) (by omega)).trans b5, (f.same _ (by omega) (by omega)).trans b6⟩
  have last : ∀ {h' : Heap} {b8 : Nat}, Fm h13.size h13.size h13 h' → At h' b8 rAlnum → clsTail (str l) (.pointer (some ⟨h.size, 0, none⟩)) (.pointer (some ⟨h5.size, 0, none⟩)) (.pointer (some ⟨h6.size, 0, none⟩)) (.pointer (some ⟨h7.size, 0, none⟩)) (.pointer (some ⟨h8.size, 0, none⟩)) (.pointer (some ⟨b8, 0, none⟩)) R E h' := by
    intro h' b8 f a8
    obtain ⟨k4, k5, k6⟩ := keep f
    exact clsTail_spec (f13.trans (Fm.lift f (by omega) (by omega))) ((f.same _ (by omega) (by omega)).trans r13) rfl k4 k5 k6 ((f.same _ (by omega) (by omega)).trans b7) a8 hk
  have f0 := Fm.refl h13.size h13.size h13
  refine ⟨fun h' => At h' h5.size cLower ∧ At h' h6.size cUpper ∧ At h' h7.size cDigit, keep f0, getSetS (fun h' hh => hh.1) (getSetS (fun h' hh => hh.2.1) (getSetS (fun h' hh => hh.2.2) ?_))⟩
  refine ⟨ror_spec (okR _ _) (okR _ _) fun h14 f14 => ⟨keep f14, ?_, ?_⟩, ?_, trivial⟩
  · have s14 := f14.size
    refine ror_spec (W4.or_ok (okR _ _) (okR _ _)) (okR _ _) fun h15 f15 => ?_
    have s15 := f15.size
    have g15 := f14.trans (Fm.lift (n := h13.size) (r := h13.size) f15 (by omega) (by omega))
    refine ⟨keep g15, ?_, trivial⟩
    refine alloc_rule Tryz.zero33 fun h16 a16 => ?_
    have s16 := a16.size
    have g16 := g15.trans (Fm.al a16 (by omega))
    refine ⟨keep g16, ?_, trivial⟩
    refine putSet a16.at_ rfl fun h17 u17 => ⟨trivial, last (g16.trans (Fm.upd u17 (.inl (by omega)))) u17.same⟩
  · refine ⟨?_, trivial⟩
    have s14 := f14.size
    refine alloc_rule Tryz.zero33 fun h16 a16 => ?_
    have s16 := a16.size
    have g16 := f14.trans (Fm.al (n := h13.size) (r := h13.size) a16 (by omega))
    refine ⟨keep g16, ?_, trivial⟩
    refine ror_spec (W4.or_ok (okR _ _) (okR _ _)) (okR _ _) fun h15 f15 => ?_
    have s15 := f15.size
    have g15 := g16.trans (Fm.lift (n := h13.size) (r := h13.size) f15 (by omega) (by omega))
    refine ⟨keep g15, ?_, trivial⟩
    refine putSet ((f15.same _ (by omega) (by omega)).trans a16.at_) rfl fun h17 u17 => ⟨trivial, last (g15.trans (Fm.upd u17 (.inl (by omega)))) u17.same⟩
  · refine alloc_rule Tryz.zero33 fun h16 a16 => ?_
    have s16 := a16.size
    have g16 := Fm.al (n := h13.size) (r := h13.size) a16 (by omega)
    refine ⟨keep g16, ?_, trivial⟩
    refine ror_spec (okR _ _) (okR _ _) fun h14 f14 => ?_
    have s14 := f14.size
    have g14 := g16.trans (Fm.lift (n := h13.size) (r := h13.size) f14 (by omega) (by omega))
    refine ⟨keep g14, ?_, trivial⟩
    refine ror_spec (W4.or_ok (okR _ _) (okR _ _)) (okR _ _) fun h15 f15 => ?_
    have s15 := f15.size
    have g15 := g14.trans (Fm.lift (n := h13.size) (r := h13.size) f15 (by omega) (by omega))
    refine ⟨keep g15, ?_, trivial⟩
    refine putSet ((f15.same _ (by omega) (by omega)).trans ((f14.same _ (by omega) (by omega)).trans a16.at_)) rfl fun h17 u17 => ⟨trivial, last (g15.trans (Fm.upd u17 (.inl (by omega)))) u17.same⟩
end Rt
end Go.Proofs
