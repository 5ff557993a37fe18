/- A part of the proofs over this seat: Dig. -/
import Derived.Test.YthlncmkeccgfeaaGreatDoorBrk5
set_option linter.unusedVariables false
set_option linter.unusedSimpArgs false
set_option maxRecDepth 100000
namespace Go.Proofs
open Go.Vcg Go.Extern
namespace Rt
attribute [local congr] Reads.congr ReadsS.congr pLoad.congr pLoadS.congr pStore.congr Runs.congr CallsH.congr bcase.congr boolV.congr Stable.congr pAlloc.congr
variable {S : Glb} {n : Nat} {h : Heap} {r : Nat} {bv : Value} {l : List UInt8} {p : Nat} {ext : Bool} {op gr : Nat} {R : Value → Heap → Prop} {E : List PanicEntry → Heap → Prop}

/-! ### Numbers -/
def digN (c : UInt8) : Nat :=
  if 65 ≤ c.toNat ∧ c.toNat ≤ 70 then c.toNat - 55 else if 97 ≤ c.toNat ∧ c.toNat ≤ 102 then c.toNat - 87 else if 48 ≤ c.toNat ∧ c.toNat ≤ 57 then c.toNat - 48 else 16
def isDig (c : UInt8) : Bool := decide (48 ≤ c.toNat) && decide (c.toNat ≤ 57)
theorem digN_lt {c : UInt8} : decide (digN c < 10) = isDig c := by
  unfold digN isDig
  rw [← Bool.decide_and]
  apply decide_eq_decide.2
  split
  · omega
  split
  · omega
  split <;> omega
theorem digN_dig {c : UInt8} (h : isDig c = true) : digN c = c.toNat - 48 ∧ c.toNat - 48 ≤ 9 := by
  unfold isDig at h
  simp only [Bool.and_eq_true, decide_eq_true_eq] at h
  unfold digN
  rw [if_neg (by omega), if_neg (by omega), if_pos h]
  omega
theorem digit_spec {c : UInt8} (hk : R (.int .i64 (digN c)) h) : CallsH Tryz.prog 131 #[.int .u8 c.toNat] h R E := by
  have hc := c.toNat_lt
  refine C131 ?_
  unfold S131
  have hex : ∀ x : Nat, 97 ≤ x → x ≤ 102 → digN c = x - 87 → Reads Tryz.prog (binS .sub 5 true (.int .u8 x) (.int .u8 97)) h fun t27 => Reads Tryz.prog (convert 5 3 t27) h fun t28 => Reads Tryz.prog (binS .add 3 true t28 (.int .i64 10)) h fun t29 => R t29 h := by
    intro x h1 h2 hx
    rw [reads_sub, show ((x : Int) - 97) = ((x - 97 : Nat) : Int) from by omega, wrap_u8 (by omega), reads_conv_int Tryz.underlying5 Tryz.underlying3, wrapN _ _ rfl (by omega), reads_add, wrapN _ (x - 87) (by omega) (by omega), ← hx]
    exact hk
  refine Join1.intro (fun v h' => h' = h ∧ ∃ x : Nat, v = .int .u8 x ∧ 97 ≤ x ∧ x ≤ 102 ∧ digN c = x - 87) ?_ ?_
  · refine Join0.intro (fun h' => h' = h ∧ ¬ (65 ≤ c.toNat ∧ c.toNat ≤ 70)) ?_ ?_
    · rw [reads_ge, boolV_bool]
      refine bcase_of (fun h1 => ?_) (fun h1 => ?_)
      · have h1 := of_decide_eq_true h1
        rw [reads_le, boolV_bool]
        refine bcase_of (fun h2 => ?_) (fun h2 => ?_)
        · have h2 := of_decide_eq_true h2
          rw [reads_add, show ((c.toNat : Int) + 32) = ((c.toNat + 32 : Nat) : Int) from by omega, wrap_u8 (by omega)]
          refine ⟨rfl, c.toNat + 32, rfl, by omega, by omega, ?_⟩
          unfold digN
          rw [if_pos (by omega)]
          omega
        · have h2 := of_decide_eq_false h2
          exact ⟨rfl, by omega⟩
      · have h1 := of_decide_eq_false h1
        exact ⟨rfl, by omega⟩
    rintro h' ⟨rfl, hn1⟩
    refine Join0.intro (fun h'' => h'' = h' ∧ ¬ (97 ≤ c.toNat ∧ c.toNat ≤ 102)) ?_ ?_
    · rw [reads_ge, boolV_bool]
      refine bcase_of (fun h1 => ?_) (fun h1 => ?_)
      · have h1 := of_decide_eq_true h1
        rw [reads_le, boolV_bool]
        refine bcase_of (fun h2 => ?_) (fun h2 => ?_)
        · have h2 := of_decide_eq_true h2
          refine ⟨rfl, c.toNat, rfl, by omega, by omega, ?_⟩
          unfold digN
          rw [if_neg hn1, if_pos (by omega)]
        · have h2 := of_decide_eq_false h2
          exact ⟨rfl, by omega⟩
      · have h1 := of_decide_eq_false h1
        exact ⟨rfl, by omega⟩
    rintro h'' ⟨rfl, hn2⟩
    unfold digN at hk
    rw [if_neg hn1, if_neg hn2] at hk
    rw [reads_ge, boolV_bool]
    refine bcase_of (fun h1 => ?_) (fun h1 => ?_)
    · have h1 := of_decide_eq_true h1
      rw [reads_le, boolV_bool]
      refine bcase_of (fun h2 => ?_) (fun h2 => ?_)
      · have h2 := of_decide_eq_true h2
        rw [if_pos (by omega)] at hk
        rw [reads_sub, show ((c.toNat : Int) - 48) = ((c.toNat - 48 : Nat) : Int) from by omega, wrap_u8 (by omega), reads_conv_int Tryz.underlying5 Tryz.underlying3, wrapN _ _ rfl (by omega)]
        exact hk
      · have h2 := of_decide_eq_false h2
        rw [if_neg (by omega)] at hk
        exact hk
    · have h1 := of_decide_eq_false h1
      rw [if_neg (by omega)] at hk
      exact hk
  rintro v h' ⟨rfl, x, rfl, h1, h2, h3⟩
  exact hex x h1 h2 h3

def dlen : List UInt8 → Nat
  | [] => 0
  | c :: l => if isDig c then dlen l + 1 else 0
theorem dlen_le : ∀ l : List UInt8, dlen l ≤ l.length
  | [] => Nat.le_refl _
  | c :: l => by
    unfold dlen
    split
    · have := dlen_le l
      simp; omega
    · omega
theorem dlen_lt : ∀ {l : List UInt8} {i : Nat} (hi : i < l.length), i < dlen l → isDig l[i] = true
  | c :: l, 0, _, h => by
    unfold dlen at h
    split at h
    · assumption
    · omega
  | c :: l, i + 1, hi, h => by
    unfold dlen at h
    split at h
    · exact dlen_lt (l := l) (by simpa using hi) (by omega)
    · omega
theorem dlen_stop : ∀ {l : List UInt8} (hi : dlen l < l.length), isDig l[dlen l] = false
  | c :: l, hi => by
    by_cases hc : isDig c = true
    · have e : dlen (c :: l) = dlen l + 1 := by rw [dlen, if_pos hc]
      have hi' : dlen l < l.length := by rw [e] at hi; simpa using hi
      have := dlen_stop hi'
      simp only [e, List.getElem_cons_succ]
      exact this
    · have e : dlen (c :: l) = 0 := by rw [dlen, if_neg hc]
      simp only [e, List.getElem_cons_zero]
      simpa using hc
def dval (l : List UInt8) (k : Nat) : Nat := (l.take k).foldl (fun a c => a * 10 + (c.toNat - 48)) 0
theorem dval_succ {i : Nat} (hi : i < l.length) : dval l (i + 1) = dval l i * 10 + (l[i].toNat - 48) := by
  unfold dval
  rw [List.take_succ_eq_append_getElem hi, List.foldl_append]
  rfl
theorem dval_lt : ∀ {i : Nat}, i ≤ dlen l → dval l i < 10 ^ i
  | 0, _ => by simp [dval]
  | i + 1, h => by
    have hl : i < l.length := by have := dlen_le l; omega
    have h1 := dval_lt (i := i) (by omega)
    have h2 := (digN_dig (dlen_lt hl (by omega))).2
    rw [dval_succ hl, Nat.pow_succ]
    omega
theorem quoBig {d : Nat} (hd : d ≤ 9) : ∃ x : Int, 1000 ≤ x ∧ IntKind.i64.wrap ((IntKind.i64.wrap (9223372036854775807 - (d : Int))).tdiv 10) = x := by
  refine ⟨_, ?_, rfl⟩
  rcases (by omega : d = 0 ∨ d = 1 ∨ d = 2 ∨ d = 3 ∨ d = 4 ∨ d = 5 ∨ d = 6 ∨ d = 7 ∨ d = 8 ∨ d = 9) with rfl | rfl | rfl | rfl | rfl | rfl | rfl | rfl | rfl | rfl <;> decide
theorem digits_spec {u : Value} (hb : IsBytes h u l) (hl : l.length ≤ 65536) (hk : ∀ (v : Int) (ov : Bool), (dlen l ≤ 3 → v = (dval l (dlen l) : Nat)) → R (.tuple #[.int .i64 v, .int .i64 (dlen l), .bool ov]) h) : CallsH Tryz.prog 121 #[u, .int .i64 10] h R E := by
  have hd := dlen_le l
  refine C121 ?_
  unfold S121
  refine Join0.intro (fun h' => h' = h) ?_ ?_
  · rw [reads_lt, boolV_bool, show decide ((10 : Int) < 2) = false from rfl, bcase_false, reads_gt, boolV_bool, show decide ((16 : Int) < 10) = false from rfl, bcase_false]
  rintro h' rfl
  refine Loop3.fuel (fun k a b c h'' => h'' = h' ∧ ∃ (v : Int) (i : Nat) (ov : Bool), a = .int .i64 v ∧ b = .int .i64 i ∧ c = .bool ov ∧ i ≤ dlen l ∧ k = dlen l - i ∧ (i ≤ 3 → v = (dval l i : Nat) ∧ ov = false))
    (n := dlen l) ⟨rfl, 0, 0, false, rfl, rfl, rfl, by omega, by omega, fun _ => ⟨rfl, rfl⟩⟩ fun k a b c h2 hi => ?_
  obtain ⟨rfl, v, i, ov, rfl, rfl, rfl, hi, rfl, hv⟩ := hi
  refine Join0.intro (fun h' => h' = h2 ∧ i < dlen l) ?_ ?_
  · rw [reads_blen hb Tryz.underlying29, reads_lt, dec_nn_lt, boolV_bool]
    refine bcase_of (fun hc => ?_) (fun hc => ?_)
    · have hlt : i < l.length := of_decide_eq_true hc
      refine idx_load hb Tryz.underlying29 Tryz.size5 Tryz.agg5 hlt ?_
      refine digit_spec ?_
      rw [reads_lt, show decide (((digN l[i] : Nat) : Int) < 10) = isDig l[i] from by rw [← digN_lt]; exact decide_eq_decide.2 (by omega), boolV_bool]
      refine bcase_of (fun hg => ⟨rfl, ?_⟩) (fun hg => ?_)
      · rcases Nat.lt_or_ge i (dlen l) with h | h
        · exact h
        · have e : i = dlen l := by omega
          subst e
          rw [dlen_stop hlt] at hg
          cases hg
      · have e : i = dlen l := by
          rcases Nat.lt_or_ge i (dlen l) with h | h
          · rw [dlen_lt hlt h] at hg; cases hg
          · omega
        subst e
        exact hk v ov fun h3 => (hv h3).1
    · have hge : l.length ≤ i := by have := of_decide_eq_false hc; omega
      have e : i = dlen l := by omega
      subst e
      exact hk v ov fun h3 => (hv h3).1
  rintro h3 ⟨rfl, hlt⟩
  have hil : i < l.length := by omega
  obtain ⟨hdg, hd9⟩ := digN_dig (dlen_lt hil hlt)
  refine idx_load hb Tryz.underlying29 Tryz.size5 Tryz.agg5 hil ?_
  refine digit_spec ?_
  have next : ∀ (v' : Int) (ov' : Bool), (i + 1 ≤ 3 → v' = (dval l (i + 1) : Nat) ∧ ov' = false) → ∃ j, j < dlen l - i ∧ h3 = h3 ∧ ∃ (w : Int) (i2 : Nat) (ov2 : Bool), Value.int .i64 v' = .int .i64 w ∧ Value.int .i64 ((i + 1 : Nat) : Int) = .int .i64 i2 ∧ Value.bool ov' = .bool ov2 ∧ i2 ≤ dlen l ∧ j = dlen l - i2 ∧ (i2 ≤ 3 → w = (dval l i2 : Nat) ∧ ov2 = false) :=
    fun v' ov' hh => ⟨_, by omega, rfl, v', i + 1, ov', rfl, rfl, rfl, by omega, rfl, hh⟩
  rw [boolV_bool]
  refine bcase_of (fun ho => ?_) (fun ho => ?_)
  · rw [reads_add, wrap_n1 _ (by omega)]
    refine next _ _ fun h3 => ?_
    have := (hv (by omega)).2
    rw [ho] at this
    cases this
  · rw [reads_sub, reads_quo (by decide)]
    rw [hdg]
    obtain ⟨x, hx, ex⟩ := quoBig hd9
    rw [ex, reads_gt, boolV_bool]
    refine bcase_of (fun hg => ?_) (fun hg => ?_)
    · have hg := of_decide_eq_true hg
      rw [reads_add, wrap_n1 _ (by omega)]
      refine next _ _ fun h3 => ?_
      have e1 := (hv (by omega)).1
      have e2 := dval_lt (l := l) (i := i) (by omega)
      have e3 : 10 ^ i ≤ 10 ^ 2 := Nat.pow_le_pow_right (by omega) (by omega)
      omega
    · rw [reads_mul, reads_add, reads_add, wrap_n1 _ (by omega)]
      refine next _ _ fun h3 => ?_
      obtain ⟨e1, e0⟩ := hv (by omega)
      have e2 := dval_lt (l := l) (i := i) (by omega)
      have e3 : 10 ^ i ≤ 10 ^ 2 := Nat.pow_le_pow_right (by omega) (by omega)
      refine ⟨?_, ho⟩
      have w1 : IntKind.i64.wrap ((dval l i : Int) * 10) = ((dval l i * 10 : Nat) : Int) := wrapN _ _ (by omega) (by omega)
      rw [e1, w1, dval_succ hil, wrap_nn _ _ (by omega)]

def numR (l : List UInt8) (p : Nat) : Int × Nat := (if dlen (l.drop p) < 1 ∨ 3 < dlen (l.drop p) then -1 else (dval (l.drop p) (dlen (l.drop p)) : Nat), p + dlen (l.drop p))
theorem numR_le (hp : p ≤ l.length) : p ≤ (numR l p).2 ∧ (numR l p).2 ≤ l.length := by
  have := dlen_le (l.drop p)
  rw [List.length_drop] at this
  unfold numR
  constructor <;> simp only <;> omega
theorem numR_lt : -1 ≤ (numR l p).1 ∧ (numR l p).1 < 1000 := by
  unfold numR
  simp only
  split
  · omega
  · have e2 := dval_lt (l := l.drop p) (i := dlen (l.drop p)) (Nat.le_refl _)
    have e3 : 10 ^ dlen (l.drop p) ≤ 10 ^ 3 := Nat.pow_le_pow_right (by omega) (by omega)
    omega
theorem number_spec (c : Cx S n h r bv l p ext op gr) (hk : ∀ h', Fm h.size r h h' → h'.size = h.size → (∀ k, k ≠ r → h'[k]? = h[k]?) → Cx S n h' r bv l (numR l p).2 ext op gr → R (.int .i64 (numR l p).1) h') : CallsH Tryz.prog 109 #[ptr r] h R E := by
  have hl := c.len
  have hp := c.le
  have hle := numR_le hp
  refine C109 ?_
  unfold S109
  rw [reads_nil, Tryz.fa57_0, addr_add, c.ld0, reads_nil, Tryz.fa57_1, addr_add, Nat.zero_add, c.ld1]
  refine reads_bfrom c.by_ Tryz.underlying29 Tryz.size5 hp fun u hu => ?_
  refine ⟨digits_spec hu (by simp; omega) fun v ov hv => ⟨trivial, ?_⟩, trivial⟩
  rw [reads_ext0, reads_ext1, reads_ext2, reads_nil, Tryz.fa57_1, addr_add, Nat.zero_add, c.ld1, reads_add, wrap_nn _ _ (by have := dlen_le (l.drop p); rw [List.length_drop] at this; omega), reads_nil, Tryz.fa57_1, addr_add, Nat.zero_add]
  refine store1 c.rd Tryz.size3 rfl (by simp) fun h2 u2 => ?_
  obtain ⟨f2, c2⟩ := c.at_ (p' := (numR l p).2) u2 hle.2
  have key := hk h2 f2 u2.size u2.other c2
  unfold numR at key
  simp only at key
  rw [reads_lt, boolV_bool]
  refine bcase_of (fun h1 => ?_) (fun h1 => ?_)
  · have h1 := of_decide_eq_true h1
    rw [if_pos (.inl (by omega))] at key
    exact key
  have h1 := of_decide_eq_false h1
  rw [reads_gt, boolV_bool]
  refine bcase_of (fun h3 => ?_) (fun h3 => ?_)
  · have h3 := of_decide_eq_true h3
    rw [if_pos (.inr (by omega))] at key
    exact key
  have h3 := of_decide_eq_false h3
  rw [if_neg (by omega)] at key
  rw [hv (by omega)]
  exact key
end Rt
end Go.Proofs
