/- A part of the proofs over this seat: Ext2. -/
import Derived.Test.YthlncmkeccgfeaaGreatDoorBrk5
set_option linter.unusedVariables false
set_option linter.unusedSimpArgs false
set_option maxRecDepth 100000
namespace Go.Proofs
open Go.Vcg Go.Extern
namespace Rt
attribute [local congr] Reads.congr ReadsS.congr pLoad.congr pLoadS.congr pStore.congr Runs.congr CallsH.congr bcase.congr boolV.congr Stable.congr pAlloc.congr
variable {S : Glb} {n : Nat} {h : Heap} {r : Nat} {bv : Value} {l : List UInt8} {p : Nat} {ext : Bool} {op gr : Nat} {R : Value → Heap → Prop} {E : List PanicEntry → Heap → Prop}

/-! ### Numbers -/
def digN (c : UInt8) : Nat :=
  if 65 ≤ c.toNat ∧ c.toNat ≤ 70 then c.toNat - 55 else if 97 ≤ c.toNat ∧ c.toNat ≤ 102 then c.toNat - 87 else if 48 ≤ c.toNat ∧ c.toNat ≤ 57 then c.toNat - 48 else 16
def isDig (c : UInt8) : Bool := decide (48 ≤ c.toNat) && decide (c.toNat ≤ 57)
theorem digN_lt {c : UInt8} : decide (digN c < 10) = isDig c := by
  unfold digN isDig
  rw [← Bool.decide_and]
  apply decide_eq_decide.2
  split
  · omega
  split
  · omega
  split <;> omega
theorem digN_dig {c : UInt8} (h : isDig c = true) : digN c = c.toNat - 48 ∧ c.toNat - 48 ≤ 9 := by
  unfold isDig at h
  simp only [Bool.and_eq_true, decide_eq_true_eq] at h
  unfold digN
  rw [if_neg (by omega), if_neg (by omega), if_pos h]
  omega
theorem digit_spec {c : UInt8} (hk : R (.int .i64 (digN c)) h) : CallsH Tryz.prog 131 #[.int .u8 c.toNat] h R E := by
  have hc := c.toNat_lt
  refine C131 ?_
  unfold S131
  have hex : ∀ x : Nat, 97 ≤ x → x ≤ 102 → digN c = x - 87 → Reads Tryz.prog (binS .sub 5 true (.int .u8 x) (.int .u8 97)) h fun t27 => Reads Tryz.prog (convert 5 3 t27) h fun t28 => Reads Tryz.prog (binS .add 3 true t28 (.int .i64 10)) h fun t29 => R t29 h := by
    intro x h1 h2 hx
    rw [reads_sub, show ((x : Int) - 97) = ((x - 97 : Nat) : Int) from by omega, wrap_u8 (by omega), reads_conv_int Tryz.underlying5 Tryz.underlying3, wrapN _ _ rfl (by omega), reads_add, wrapN _ (x - 87) (by omega) (by omega), ← hx]
    exact hk
  refine Join1.intro (fun v h' => h' = h ∧ ∃ x : Nat, v = .int .u8 x ∧ 97 ≤ x ∧ x ≤ 102 ∧ digN c = x - 87) ?_ ?_
  · refine Join0.intro (fun h' => h' = h ∧ ¬ (65 ≤ c.toNat ∧ c.toNat ≤ 70)) ?_ ?_
    · rw [reads_ge, boolV_bool]
      refine bcase_of (fun h1 => ?_) (fun h1 => ?_)
      · have h1 := of_decide_eq_true h1
        rw [reads_le, boolV_bool]
        refine bcase_of (fun h2 => ?_) (fun h2 => ?_)
        · have h2 := of_decide_eq_true h2
          rw [reads_add, show ((c.toNat : Int) + 32) = ((c.toNat + 32 : Nat) : Int) from by omega, wrap_u8 (by omega)]
          refine ⟨rfl, c.toNat + 32, rfl, by omega, by omega, ?_⟩
          unfold digN
          rw [if_pos (by omega)]
          omega
        · have h2 := of_decide_eq_false h2
          exact ⟨rfl, by omega⟩
      · have h1 := of_decide_eq_false h1
        exact ⟨rfl, by omega⟩
    rintro h' ⟨rfl, hn1⟩
    refine Join0.intro (fun h'' => h'' = h' ∧ ¬ (97 ≤ c.toNat ∧ c.toNat ≤ 102)) ?_ ?_
    · rw [reads_ge, boolV_bool]
      refine bcase_of (fun h1 => ?_) (fun h1 => ?_)
      · have h1 := of_decide_eq_true h1
        rw [reads_le, boolV_bool]
        refine bcase_of (fun h2 => ?_) (fun h2 => ?_)
        · have h2 := of_decide_eq_true h2
          refine ⟨rfl, c.toNat, rfl, by omega, by omega, ?_⟩
          unfold digN
          rw [if_neg hn1, if_pos (by omega)]
        · have h2 := of_decide_eq_false h2
          exact ⟨rfl, by omega⟩
      · have h1 := of_decide_eq_false h1
        exact ⟨rfl, by omega⟩
    rintro h'' ⟨rfl, hn2⟩
    unfold digN at hk
    rw [if_neg hn1, if_neg hn2] at hk
    rw [reads_ge, boolV_bool]
    refine bcase_of (fun h1 => ?_) (fun h1 => ?_)
    · have h1 := of_decide_eq_true h1
      rw [reads_le, boolV_bool]
      refine bcase_of (fun h2 => ?_) (fun h2 => ?_)
      · have h2 := of_decide_eq_true h2
        rw [if_pos (by omega)] at hk
        rw [reads_sub, show ((c.toNat : Int) - 48) = ((c.toNat - 48 : Nat) : Int) from by omega, wrap_u8 (by omega), reads_conv_int Tryz.underlying5 Tryz.underlying3, wrapN _ _ rfl (by omega)]
        exact hk
      · have h2 := of_decide_eq_false h2
        rw [if_neg (by omega)] at hk
        exact hk
    · have h1 := of_decide_eq_false h1
      rw [if_neg (by omega)] at hk
      exact hk
  rintro v h' ⟨rfl, x, rfl, h1, h2, h3⟩
  exact hex x h1 h2 h3

def dlen : List UInt8 → Nat
  | [] => 0
  | c :: l => if isDig c then dlen l + 1 else 0
theorem dlen_le : ∀ l : List UInt8, dlen l ≤ l.length
  | [] => Nat.le_refl _
  | c :: l => by
    unfold dlen
    split
    · have := dlen_le l
      simp; omega
    · omega
theorem dlen_lt : ∀ {l : List UInt8} {i : Nat} (hi : i < l.length), i < dlen l → isDig l[i] = true
  | c :: l, 0, _, h => by
    unfold dlen at h
    split at h
    · assumption
    · omega
  | c :: l, i + 1, hi, h => by
    unfold dlen at h
    split at h
    · exact dlen_lt (l := l) (by simpa using hi) (by omega)
    · omega
theorem dlen_stop : ∀ {l : List UInt8} (hi : dlen l < l.length), isDig l[dlen l] = false
  | c :: l, hi => by
    by_cases hc : isDig c = true
    · have e : dlen (c :: l) = dlen l + 1 := by rw [dlen, if_pos hc]
      have hi' : dlen l < l.length := by rw [e] at hi; simpa using hi
      have := dlen_stop hi'
      simp only [e, List.getElem_cons_succ]
      exact this
    · have e : dlen (c :: l) = 0 := by rw [dlen, if_neg hc]
      simp only [e, List.getElem_cons_zero]
      simpa using hc
def dval (l : List UInt8) (k : Nat) : Nat := (l.take k).foldl (fun a c => a * 10 + (c.toNat - 48)) 0
theorem dval_succ {i : Nat} (hi : i < l.length) : dval l (i + 1) = dval l i * 10 + (l[i].toNat - 48) := by
  unfold dval
  rw [List.take_succ_eq_append_getElem hi, List.foldl_append]
  rfl
theorem dval_lt : ∀ {i : Nat}, i ≤ dlen l → dval l i < 10 ^ i
  | 0, _ => by simp [dval]
  | i + 1, h => by
    have hl : i < l.length := by have := dlen_le l; omega
    have h1 := dval_lt (i := i) (by omega)
    have h2 := (digN_dig (dlen_lt hl (by omega))).2
    rw [dval_succ hl, Nat.pow_succ]
    omega
theorem quoBig {d : Nat} (hd : d ≤ 9) : ∃ x : Int, 1000 ≤ x ∧ IntKind.i64.wrap ((IntKind.i64.wrap (9223372036854775807 - (d : Int))).tdiv 10) = x := by
  refine ⟨_, ?_, rfl⟩
  rcases (by omega : d = 0 ∨ d = 1 ∨ d = 2 ∨ d = 3 ∨ d = 4 ∨ d = 5 ∨ d = 6 ∨ d = 7 ∨ d = 8 ∨ d = 9) with rfl | rfl | rfl | rfl | rfl | rfl | rfl | rfl | rfl | rfl <;> decide
theorem digits_spec {u : Value} (hb : IsBytes h u l) (hl : l.length ≤ 65536) (hk : ∀ (v : Int) (ov : Bool), (dlen l ≤ 3 → v = (dval l (dlen l) : Nat)) → R (.tuple #[.int .i64 v, .int .i64 (dlen l), .bool ov]) h) : CallsH Tryz.prog 121 #[u, .int .i64 10] h R E := by
  have hd := dlen_le l
  refine C121 ?_
  unfold S121
  refine Join0.intro (fun h' => h' = h) ?_ ?_
  · rw [reads_lt, boolV_bool, show decide ((10 : Int) < 2) = false from rfl, bcase_false, reads_gt, boolV_bool, show decide ((16 : Int) < 10) = false from rfl, bcase_false]
  rintro h' rfl
  refine Loop3.fuel (fun k a b c h'' => h'' = h' ∧ ∃ (v : Int) (i : Nat) (ov : Bool), a = .int .i64 v ∧ b = .int .i64 i ∧ c = .bool ov ∧ i ≤ dlen l ∧ k = dlen l - i ∧ (i ≤ 3 → v = (dval l i : Nat) ∧ ov = false))
    (n := dlen l) ⟨rfl, 0, 0, false, rfl, rfl, rfl, by omega, by omega, fun _ => ⟨rfl, rfl⟩⟩ fun k a b c h2 hi => ?_
  obtain ⟨rfl, v, i, ov, rfl, rfl, rfl, hi, rfl, hv⟩ := hi
  refine Join0.intro (fun h' => h' = h2 ∧ i < dlen l) ?_ ?_
  · rw [reads_blen hb Tryz.underlying29, reads_lt, dec_nn_lt, boolV_bool]
    refine bcase_of (fun hc => ?_) (fun hc => ?_)
    · have hlt : i < l.length := of_decide_eq_true hc
      refine idx_load hb Tryz.underlying29 Tryz.size5 Tryz.agg5 hlt ?_
      refine digit_spec ?_
      rw [reads_lt, show decide (((digN l[i] : Nat) : Int) < 10) = isDig l[i] from by rw [← digN_lt]; exact decide_eq_decide.2 (by omega), boolV_bool]
      refine bcase_of (fun hg => ⟨rfl, ?_⟩) (fun hg => ?_)
      · rcases Nat.lt_or_ge i (dlen l) with h | h
        · exact h
        · have e : i = dlen l := by omega
          subst e
          rw [dlen_stop hlt] at hg
          cases hg
      · have e : i = dlen l := by
          rcases Nat.lt_or_ge i (dlen l) with h | h
          · rw [dlen_lt hlt h] at hg; cases hg
          · omega
        subst e
        exact hk v ov fun h3 => (hv h3).1
    · have hge : l.length ≤ i := by have := of_decide_eq_false hc; omega
      have e : i = dlen l := by omega
      subst e
      exact hk v ov fun h3 => (hv h3).1
  rintro h3 ⟨rfl, hlt⟩
  have hil : i < l.length := by omega
  obtain ⟨hdg, hd9⟩ := digN_dig (dlen_lt hil hlt)
  refine idx_load hb Tryz.underlying29 Tryz.size5 Tryz.agg5 hil ?_
  refine digit_spec ?_
  have next : ∀ (v' : Int) (ov' : Bool), (i + 1 ≤ 3 → v' = (dval l (i + 1) : Nat) ∧ ov' = false) → ∃ j, j < dlen l - i ∧ h3 = h3 ∧ ∃ (w : Int) (i2 : Nat) (ov2 : Bool), Value.int .i64 v' = .int .i64 w ∧ Value.int .i64 ((i + 1 : Nat) : Int) = .int .i64 i2 ∧ Value.bool ov' = .bool ov2 ∧ i2 ≤ dlen l ∧ j = dlen l - i2 ∧ (i2 ≤ 3 → w = (dval l i2 : Nat) ∧ ov2 = false) :=
    fun v' ov' hh => ⟨_, by omega, rfl, v', i + 1, ov', rfl, rfl, rfl, by omega, rfl, hh⟩
  rw [boolV_bool]
  refine bcase_of (fun ho => ?_) (fun ho => ?_)
  · rw [reads_add, wrap_n1 _ (by omega)]
    refine next _ _ fun h3 => ?_
    have := (hv (by omega)).2
    rw [ho] at this
    cases this
  · rw [reads_sub, reads_quo (by decide)]
    rw [hdg]
    obtain ⟨x, hx, ex⟩ := quoBig hd9
    rw [ex, reads_gt, boolV_bool]
    refine bcase_of (fun hg => ?_) (fun hg => ?_)
    · have hg := of_decide_eq_true hg
      rw [reads_add, wrap_n1 _ (by omega)]
      refine next _ _ fun h3 => ?_
      have e1 := (hv (by omega)).1
      have e2 := dval_lt (l := l) (i := i) (by omega)
      have e3 : 10 ^ i ≤ 10 ^ 2 := Nat.pow_le_pow_right (by omega) (by omega)
      omega
    · rw [reads_mul, reads_add, reads_add, wrap_n1 _ (by omega)]
      refine next _ _ fun h3 => ?_
      obtain ⟨e1, e0⟩ := hv (by omega)
      have e2 := dval_lt (l := l) (i := i) (by omega)
      have e3 : 10 ^ i ≤ 10 ^ 2 := Nat.pow_le_pow_right (by omega) (by omega)
      refine ⟨?_, ho⟩
      have w1 : IntKind.i64.wrap ((dval l i : Int) * 10) = ((dval l i * 10 : Nat) : Int) := wrapN _ _ (by omega) (by omega)
      rw [e1, w1, dval_succ hil, wrap_nn _ _ (by omega)]

def numR (l : List UInt8) (p : Nat) : Int × Nat := (if dlen (l.drop p) < 1 ∨ 3 < dlen (l.drop p) then -1 else (dval (l.drop p) (dlen (l.drop p)) : Nat), p + dlen (l.drop p))
theorem numR_le (hp : p ≤ l.length) : p ≤ (numR l p).2 ∧ (numR l p).2 ≤ l.length := by
  have := dlen_le (l.drop p)
  rw [List.length_drop] at this
  unfold numR
  constructor <;> simp only <;> omega
theorem numR_lt : -1 ≤ (numR l p).1 ∧ (numR l p).1 < 1000 := by
  unfold numR
  simp only
  split
  · omega
  · have e2 := dval_lt (l := l.drop p) (i := dlen (l.drop p)) (Nat.le_refl _)
    have e3 : 10 ^ dlen (l.drop p) ≤ 10 ^ 3 := Nat.pow_le_pow_right (by omega) (by omega)
    omega
theorem number_spec (c : Cx S n h r bv l p ext op gr) (hk : ∀ h', Fm h.size r h h' → h'.size = h.size → (∀ k, k ≠ r → h'[k]? = h[k]?) → Cx S n h' r bv l (numR l p).2 ext op gr → R (.int .i64 (numR l p).1) h') : CallsH Tryz.prog 109 #[ptr r] h R E := by
  have hl := c.len
  have hp := c.le
  have hle := numR_le hp
  refine C109 ?_
  unfold S109
  rw [reads_nil, Tryz.fa57_0, addr_add, c.ld0, reads_nil, Tryz.fa57_1, addr_add, Nat.zero_add, c.ld1]
  refine reads_bfrom c.by_ Tryz.underlying29 Tryz.size5 hp fun u hu => ?_
  refine ⟨digits_spec hu (by simp; omega) fun v ov hv => ⟨trivial, ?_⟩, trivial⟩
  rw [reads_ext0, reads_ext1, reads_ext2, reads_nil, Tryz.fa57_1, addr_add, Nat.zero_add, c.ld1, reads_add, wrap_nn _ _ (by have := dlen_le (l.drop p); rw [List.length_drop] at this; omega), reads_nil, Tryz.fa57_1, addr_add, Nat.zero_add]
  refine store1 c.rd Tryz.size3 rfl (by simp) fun h2 u2 => ?_
  obtain ⟨f2, c2⟩ := c.at_ (p' := (numR l p).2) u2 hle.2
  have key := hk h2 f2 u2.size u2.other c2
  unfold numR at key
  simp only at key
  rw [reads_lt, boolV_bool]
  refine bcase_of (fun h1 => ?_) (fun h1 => ?_)
  · have h1 := of_decide_eq_true h1
    rw [if_pos (.inl (by omega))] at key
    exact key
  have h1 := of_decide_eq_false h1
  rw [reads_gt, boolV_bool]
  refine bcase_of (fun h3 => ?_) (fun h3 => ?_)
  · have h3 := of_decide_eq_true h3
    rw [if_pos (.inr (by omega))] at key
    exact key
  have h3 := of_decide_eq_false h3
  rw [if_neg (by omega)] at key
  rw [hv (by omega)]
  exact key
end Rt
end Go.Proofs

set_option maxRecDepth 100000
namespace Go.Proofs
open Go.Vcg Go.Extern
namespace Rt
attribute [local congr] Reads.congr ReadsS.congr pLoad.congr pLoadS.congr pStore.congr Runs.congr CallsH.congr bcase.congr boolV.congr Stable.congr pAlloc.congr
variable {S : Glb} {n : Nat} {h : Heap} {r : Nat} {bv : Value} {l : List UInt8} {p : Nat} {ext : Bool} {op gr : Nat} {R : Value → Heap → Prop} {E : List PanicEntry → Heap → Prop}

/-! ### How often -/
def repM (t : T) (mn mx : Int) : T := .node 6 .zero mn mx 0 [t]
def secondR (l shut : List UInt8) (mn : Int) (p : Nat) : Option (Int × Nat) :=
  if 0 ≤ mn ∧ isM l [44] p = true then (if isM l shut (p + 1) = true then some (-1, p + 1) else if (numR l (p + 1)).1 < 0 then none else some (numR l (p + 1))) else some (mn, p)
def intM (l : List UInt8) (t : T) (frm : Nat) (shut : List UInt8) (p : Nat) : Res (T × Nat) :=
  match secondR l shut (numR l p).1 (numR l p).2 with
  | none => .bad 7 frm
  | some x => if (numR l p).1 < 0 ∨ isM l shut x.2 = false ∨ 255 < (numR l p).1 ∨ 255 < x.1 ∨ (0 ≤ x.1 ∧ x.1 < (numR l p).1) then .bad 7 frm else .ok (repM t (numR l p).1 x.1, x.2 + shut.length)
def OwesN (S : Glb) (n : Nat) (h : Heap) (r : Nat) (bv : Value) (l : List UInt8) (ext : Bool) (op gr : Nat) (Q : Nat → Prop) (m : Res (T × Nat)) (R : Value → Heap → Prop) (E : List PanicEntry → Heap → Prop) : Prop :=
  match m with
  | .out => False
  | .bad code pos => ∀ c h', Fails S h' h.size ext code pos c → Fm h.size r h h' → E c h'
  | .ok x => ∀ h' vs, Fm h.size r h h' → Cx S n h' r bv l x.2 ext op gr → IsRe h' (fun b => Q b ∨ h.size ≤ b) x.1 vs → R (.agg vs.toArray) h'
theorem interval_spec {Q : Nat → Prop} {t : T} {vs : List Value} {frm : Nat} {shut : List UInt8} (c : Cx S n h r bv l p ext op gr) (ht : IsRe h Q t vs) (hQ : ∀ x, Q x → x ≠ r) (hs : shut.length ≤ 4294967296)
    (hk : OwesN S n h r bv l ext op gr Q (intM l t frm shut p) R E) : CallsH Tryz.prog 84 #[ptr r, .agg vs.toArray, .int .i64 frm, str shut] h R E := by
  have hr := c.rlt
  have hl := c.len
  have hn := c.nle
  refine C84 ?_
  unfold S84
  refine new_rule fun h1 a1 => ?_
  have s1 := a1.size
  refine alloc_rule Tryz.zero36 fun h2 a2 => ?_
  have s2 := a2.size
  have c2 := (c.al a1).al a2
  have f2 : Fm h.size r h h2 := (Fm.al a1 (Nat.le_refl _)).trans (Fm.al a2 (by omega))
  have b2 : h2[h.size]? = some (.cells vs.toArray 36 (0, 0)) := (a2.old _ (by omega)).trans a1.at_
  -- only the reader changes until the end
  have only : ∀ {h' : Heap}, Fm h2.size r h2 h' → Fm h.size r h h' := fun f => f2.trans (f.less (by omega))
  have bad : intM l t frm shut p = .bad 7 frm → ∀ {h' : Heap} {q : Nat} {K : Value → Heap → Prop}, Fm h2.size r h2 h' → Cx S n h' r bv l q ext op gr → CallsH Tryz.prog 58 #[ptr r, .int .i64 7, .int .i64 frm] h' K E := by
    intro hb h' q K f c'
    rw [hb] at hk
    refine fail_spec (code := 7) c' (by omega) (by omega) fun e h3 hf f3 => ?_
    have := f.size
    exact hk e h3 (hf.more (by omega)) ((only f).trans (f3.less (by omega)))
  refine number_spec c2 fun h3 f3 _ _ c3 => ?_
  unfold intM at hk bad
  generalize numR l p = N at *
  obtain ⟨mn, p1⟩ := N
  simp only at c3 hk bad
  refine Join1.intro (fun v h' => ∃ mx p2, secondR l shut mn p1 = some (mx, p2) ∧ v = .int .i64 mx ∧ Fm h2.size r h2 h' ∧ Cx S n h' r bv l p2 ext op gr) ?_ ?_
  · refine Join1.intro (fun v h' => ∃ b p2, v = .bool b ∧ Fm h2.size r h2 h' ∧ Cx S n h' r bv l p2 ext op gr ∧ (if b then (0 ≤ mn ∧ isM l [44] p1 = true) ∧ p2 = p1 + 1 else ¬ (0 ≤ mn ∧ isM l [44] p1 = true) ∧ p2 = p1)) ?_ ?_
    · rw [reads_ge, boolV_bool]
      refine bcase_of (fun hg => ?_) (fun hg => ?_)
      · have hg := of_decide_eq_true hg
        refine take_spec c3 (by simp) (fun hy h4 f4 c4 => ?_) (fun hn => ?_)
        · exact ⟨true, _, rfl, f3.trans (f4.less (by have := f3.size; omega)), c4, by rw [if_pos rfl]; exact ⟨⟨hg, hy⟩, rfl⟩⟩
        · exact ⟨false, _, rfl, f3, c3, by rw [if_neg (by simp)]; exact ⟨fun e => absurd e.2 (by rw [hn]; simp), rfl⟩⟩
      · have hg := of_decide_eq_false hg
        exact ⟨false, _, rfl, f3, c3, by rw [if_neg (by simp)]; exact ⟨fun e => hg e.1, rfl⟩⟩
    rintro v h4 ⟨b, p2, rfl, f4, c4, hb⟩
    have s4 := f4.size
    unfold secondR at bad ⊢
    rw [boolV_bool]
    refine bcase_of (fun hy => ?_) (fun hy => ?_)
    · rw [hy] at hb
      simp only [if_true] at hb
      obtain ⟨hb, rfl⟩ := hb
      rw [if_pos hb] at bad ⊢
      refine is_spec c4 hs ?_
      rw [reads_not, boolV_bool]
      refine bcase_of (fun hi => ?_) (fun hi => ?_)
      · have hi' : isM l shut (p1 + 1) = false := by simpa using hi
        rw [if_neg (by rw [hi']; simp)] at bad ⊢
        refine number_spec c4 fun h5 f5 _ _ c5 => ?_
        have f5' : Fm h2.size r h2 h5 := f4.trans (f5.less (by omega))
        rw [reads_lt, boolV_bool]
        refine bcase_of (fun hz => ?_) (fun hz => ?_)
        · have hz := of_decide_eq_true hz
          rw [if_pos hz] at bad
          exact bad rfl f5' c5
        · have hz := of_decide_eq_false hz
          rw [if_neg hz]
          exact ⟨_, _, rfl, rfl, f5', c5⟩
      · have hi' : isM l shut (p1 + 1) = true := by simpa using hi
        rw [if_pos hi']
        exact ⟨_, _, rfl, rfl, f4, c4⟩
    · rw [hy] at hb
      simp only [Bool.false_eq_true, if_false] at hb
      obtain ⟨hb, rfl⟩ := hb
      rw [if_neg hb]
      exact ⟨_, _, rfl, rfl, f4, c4⟩
  rintro v h4 ⟨mx, p2, hsec, rfl, f4, c4⟩
  rw [hsec] at hk bad
  simp only at hk bad
  have s4 := f4.size
  refine Join0.intro (fun h' => ¬ (mn < 0 ∨ isM l shut p2 = false ∨ 255 < mn ∨ 255 < mx ∨ (0 ≤ mx ∧ mx < mn)) ∧ Fm h2.size r h2 h' ∧ Cx S n h' r bv l (p2 + shut.length) ext op gr) ?_ ?_
  · rw [reads_lt, boolV_bool]
    refine bcase_of (fun hc => ?_) (fun hc => ?_)
    · have hc := of_decide_eq_true hc
      rw [if_pos (.inl hc)] at bad
      exact ⟨rfl, rfl, rfl, bad rfl f4 c4⟩
    have h1 := of_decide_eq_false hc
    refine take_spec c4 hs (fun hy h5 f5 c5 => ?_) (fun hn => ?_)
    rotate_left
    · rw [if_pos (.inr (.inl hn))] at bad
      rw [reads_not, boolV_bool, Bool.not_false, bcase_true]
      exact ⟨rfl, rfl, rfl, bad rfl f4 c4⟩
    have f5' : Fm h2.size r h2 h5 := f4.trans (f5.less (by omega))
    rw [reads_not, boolV_bool, Bool.not_true, bcase_false, reads_gt, boolV_bool]
    refine bcase_of (fun hc => ?_) (fun hc => ?_)
    · have hc := of_decide_eq_true hc
      rw [if_pos (.inr (.inr (.inl hc)))] at bad
      exact ⟨rfl, rfl, rfl, bad rfl f5' c5⟩
    have h2' := of_decide_eq_false hc
    rw [reads_gt, boolV_bool]
    refine bcase_of (fun hc => ?_) (fun hc => ?_)
    · have hc := of_decide_eq_true hc
      rw [if_pos (.inr (.inr (.inr (.inl hc))))] at bad
      exact ⟨rfl, rfl, rfl, bad rfl f5' c5⟩
    have h3' := of_decide_eq_false hc
    rw [reads_ge, boolV_bool]
    refine bcase_of (fun hc => ?_) (fun hc => ?_)
    · have h4' := of_decide_eq_true hc
      rw [reads_lt, boolV_bool]
      refine bcase_of (fun hc => ?_) (fun hc => ?_)
      · have hc := of_decide_eq_true hc
        rw [if_pos (.inr (.inr (.inr (.inr ⟨h4', hc⟩))))] at bad
        exact bad rfl f5' c5
      · have h5' := of_decide_eq_false hc
        exact ⟨by rw [hy]; simp; omega, f5', c5⟩
    · have h4' := of_decide_eq_false hc
      exact ⟨by rw [hy]; simp; omega, f5', c5⟩
  rintro h5 ⟨hno, f5, c5⟩
  rw [if_neg hno] at hk
  simp only [OwesN] at hk
  have s5 := f5.size
  have hr5 := c5.rlt
  refine load_all ((f5.same _ (by omega) (by omega)).trans b2) (by rw [Tryz.agg36]; simp [ht.len]) ?_
  have f05 := only f5
  have ht5 : IsRe h5 (fun b => Q b ∧ b < h.size) t vs := ht.frame fun b hb hlt => ⟨⟨hb, hlt⟩, f05.same b hlt (hQ b hb)⟩
  refine rep_spec ht5 fun h6 ws f6 ht6 => ?_
  have s6 := f6.size
  refine ret_re (Q := fun b => (Q b ∧ b < h.size) ∨ h5.size ≤ b) ((f6.same h1.size (by omega) (by omega)).trans ((f5.same _ (by omega) (by omega)).trans a2.at_)) rfl (fun x hx => by rcases hx with hx | hx <;> omega) ht6 fun h7 u7 ht7 => ?_
  have f6' : Fm h5.size r h5 h6 := ⟨f6.size, fun k hk _ => f6.same k hk (by omega)⟩
  refine hk h7 ws (f05.trans ((f6'.less (by omega)).trans (Fm.upd u7 (.inl (by omega))))) ((c5.still (f6'.less c5.nle) (f6.same r hr5 (by omega))).upd u7 (by omega) (by omega)) ?_
  exact ht7.frame fun b hb _ => ⟨hb.imp (fun e => e.1) (fun e => by omega), rfl⟩
end Rt
end Go.Proofs

set_option maxRecDepth 100000
namespace Go.Proofs
open Go.Vcg
namespace Rt
attribute [local congr] Reads.congr ReadsS.congr pLoad.congr pLoadS.congr pStore.congr Runs.congr CallsH.congr bcase.congr boolV.congr Stable.congr pAlloc.congr
variable {S : Glb} {n : Nat} {h : Heap} {r : Nat} {bv : Value} {l : List UInt8} {p : Nat} {ext : Bool} {op gr : Nat} {R : Value → Heap → Prop} {E : List PanicEntry → Heap → Prop}

/-! ### What the extended grammar reads -/
def anchorM (l : List UInt8) (kind p : Nat) : Res (T × Nat) := if timesM l p then .bad 3 p else .ok (.node kind .zero 0 0 0 [], p)
def groupM (l : List UInt8) (start : Nat) (shut : List UInt8) (gr : Nat) (m : Res (T × Nat × Nat)) : Res (T × Nat × Nat) :=
  if gr = 9 then .bad 5 start else match m with
    | .ok (t, p', gr') => if isM l shut p' then .ok (.node 7 .zero 0 0 (gr + 1) [t], p' + shut.length, gr') else .bad 9 l.length
    | .bad a b => .bad a b
    | .out => .out
def timesLM : Nat → List UInt8 → T → Nat → Res (T × Nat)
  | 0, _, _, _ => .out
  | k + 1, l, e, p =>
    if isM l [42] p then timesLM k l (repM e 0 (-1)) (p + 1)
    else if isM l [43] p then timesLM k l (repM e 1 (-1)) (p + 1)
    else if isM l [63] p then timesLM k l (repM e 0 1) (p + 1)
    else if isM l [123] p then (match intM l e p [125] (p + 1) with | .ok x => timesLM k l x.1 x.2 | .bad a b => .bad a b | .out => .out)
    else .ok (e, p)
def extSigns : List UInt8 := [46, 91, 93, 40, 41, 42, 43, 63, 123, 125, 124, 94, 36, 47, 92]
def thenTimes (k : Nat) (l : List UInt8) (m : Res (T × Nat × Nat)) : Res (T × Nat × Nat) :=
  match m with
  | .ok (t, p', gr') => (timesLM k l t p').with gr'
  | x => x
mutual
def itemM : Nat → List UInt8 → Nat → Nat → Nat → Res (T × Nat × Nat)
  | 0, _, _, _, _ => .out
  | k + 1, l, p, op, gr =>
    if timesM l p then .bad 3 p
    else if isM l [94] p then (anchorM l 2 (p + 1)).with gr
    else if isM l [36] p then (anchorM l 3 (p + 1)).with gr
    else if isM l [40] p then thenTimes k l (groupM l p [41] gr (branchesM k l (p + 1) (op + 1) (gr + 1)))
    else if isM l [92] p then thenTimes k l ((escM l extSigns p).with gr)
    else if isM l [46] p then thenTimes k l (.ok (.node 1 anyW 0 0 0 [], p + 1, gr))
    else if isM l [91] p then thenTimes k l ((brkM true l (p + 1)).with gr)
    else match l[p]? with
      | some c => thenTimes k l (.ok (single c, p + 1, gr))
      | none => .out
def branchL : Nat → List UInt8 → List T → Nat → Nat → Nat → Res (T × Nat × Nat)
  | 0, _, _, _, _, _ => .out
  | k + 1, l, ts, p, op, gr =>
    if l.length ≤ p ∨ isM l [124] p ∨ isM l [41] p then
      if ts.isEmpty then (if isM l [41] p ∧ op = 0 then .bad 9 p else .bad 3 p) else .ok (joinM 4 ts, p, gr)
    else match itemM k l p op gr with
      | .ok (t, p', gr') => branchL k l (ts ++ [t]) p' op gr'
      | x => x
def altL : Nat → List UInt8 → List T → Nat → Nat → Nat → Res (T × Nat × Nat)
  | 0, _, _, _, _, _ => .out
  | k + 1, l, ts, p, op, gr =>
    if isM l [124] p then match branchL k l [] (p + 1) op gr with
      | .ok (t, p', gr') => altL k l (ts ++ [t]) p' op gr'
      | x => x
    else .ok (joinM 5 ts, p, gr)
def branchesM : Nat → List UInt8 → Nat → Nat → Nat → Res (T × Nat × Nat)
  | 0, _, _, _, _ => .out
  | k + 1, l, p, op, gr => match branchL k l [] p op gr with
    | .ok (t, p', gr') => altL k l [t] p' op gr'
    | x => x
end

theorem anchor_spec {kind : Nat} (c : Cx S n h r bv l p ext op gr) (hk : Owes S n h r bv l ext op ((anchorM l kind p).with gr) R E) : CallsH Tryz.prog 118 #[ptr r, .int .i64 kind] h R E := by
  refine C118 ?_
  unfold S118
  refine alloc_rule Tryz.zero36 fun h1 a1 => ?_
  have c1 := c.al a1
  have hr := c.rlt
  have f1 : Fm h.size r h h1 := Fm.al a1 (Nat.le_refl _)
  refine times_spec c1 ?_
  unfold anchorM at hk
  simp only [boolV_bool, bcase_true, bcase_false, need, Tryz.zero36, reads_nil, Tryz.fa57_1, addr_add, Tryz.agg3, Tryz.bd36_0, Tryz.size36, Tryz.agg36, c1.ld1, Nat.zero_add]
  refine bcase_of (fun hc => ?_) (fun hc => ?_)
  · rw [if_pos hc] at hk
    exact fail_spec (code := 3) c1 (by omega) (by omega) fun e h' hf f => hk e h' (hf.more (by rw [a1.size]; omega)) (f1.trans (f.less (by rw [a1.size]; omega)))
  · rw [if_neg (by simp [hc])] at hk
    refine ret_re (t := .node kind .zero 0 0 0 []) (vs := reL kind .zero 0 0 0 (.slice none 0 0)) (Q := fun _ => False) a1.at_ rfl (fun _ h => h.elim) IsRe.leaf fun h2 hu ht => ?_
    exact hk h2 _ (f1.trans (Fm.upd hu (.inl (Nat.le_refl _)))) (c1.upd hu c.nle (by omega)) (ht.frame fun b hb _ => hb.elim)

theorem runs_closure {f : FuncId} {K : Value → Heap → Prop} {fn : Func} {cd : Code} (hf : Tryz.prog.funcs[f]? = some fn) (hname : (fn.name == "runtime.NumGoroutine") = false) (hb : fn.body = some cd) {a : Array Value}
    (hk : CallsH Tryz.prog f a h K E) : Runs Tryz.prog (do let d ← Deferred.ofValue (.func (.func f) a #[]) #[]; invoke d.target d.args) h K E := by
  intro w hw
  subst hw
  have h1 : fn.name ≠ "runtime.NumGoroutine" := by simpa using hname
  have e : (callFunc f a).run Tryz.prog w = .ok (.enter f a) w := by simp [callFunc, hf, h1, hb]
  simp [Deferred.ofValue, invoke, e, uponH, Same.refl]
  exact hk

theorem group_spec {start : Nat} {shut : List UInt8} {f : FuncId} {m : Res (T × Nat × Nat)} {fn : Func} {cd : Code} (hf : Tryz.prog.funcs[f]? = some fn) (hname : (fn.name == "runtime.NumGoroutine") = false) (hb : fn.body = some cd)
    (c : Cx S n h r bv l p ext op gr) (hsh : shut.length ≤ 4294967296)
    (hread : ∀ {n : Nat} {h : Heap} {R : Value → Heap → Prop}, Cx S n h r bv l p ext (op + 1) (gr + 1) → Owes S n h r bv l ext (op + 1) m R E → CallsH Tryz.prog f #[ptr r] h R E)
    (hk : Owes S n h r bv l ext op (groupM l start shut gr m) R E) : CallsH Tryz.prog 105 #[ptr r, .int .i64 start, str shut, .func (.func f) #[ptr r] #[]] h R E := by
  refine C105 ?_
  unfold S105
  refine alloc_rule Tryz.zero36 fun h1 a1 => ?_
  have c1 := c.al a1
  have s1 := a1.size
  have hr := c.rlt
  have hl := c.len
  have hop := c.opg
  have hgr := c.g9
  have f1 : Fm h.size r h h1 := Fm.al a1 (Nat.le_refl _)
  unfold groupM at hk
  refine Join0.intro (fun h' => h' = h1 ∧ gr ≠ 9) ?_ ?_
  · simp only [boolV_bool, bcase_true, bcase_false, need, Tryz.zero36, reads_nil, Tryz.fa57_4, addr_add, Tryz.agg3, reads_eq, reads_add, Tryz.size3, Tryz.fa57_3, Tryz.size36, reads_not, Tryz.fa57_0, Tryz.agg29, reads_sub, Tryz.agg36, Tryz.bd36_0_4_5, c1.ld4, Nat.zero_add]
    refine bcase_of (fun hc => ?_) (fun hc => ⟨trivial, by have := of_decide_eq_false hc; omega⟩)
    have : gr = 9 := by have := of_decide_eq_true hc; omega
    rw [if_pos this] at hk
    exact fail_spec (code := 5) c1 (by omega) (by omega) fun e h' hf f => hk e h' (hf.more (by omega)) (f1.trans (f.less (by omega)))
  · rintro h2 ⟨rfl, h9⟩
    rw [if_neg h9] at hk
    simp only [boolV_bool, bcase_true, bcase_false, need, Tryz.zero36, reads_nil, Tryz.fa57_4, addr_add, Tryz.agg3, reads_eq, reads_add, Tryz.size3, Tryz.fa57_3, Tryz.size36, reads_not, Tryz.fa57_0, Tryz.agg29, reads_sub, Tryz.agg36, Tryz.bd36_0_4_5, c1.ld4, Nat.zero_add, wrap_n1 gr (by omega)]
    refine store1 c1.rd Tryz.size3 rfl (by simp) fun h3 hu3 => ?_
    have c3 : Cx S n h3 r bv l p ext op (gr + 1) := c1.on (Fm.upd hu3 (.inr rfl)) hu3.same c1.le (by omega) (by omega)
    simp only [boolV_bool, bcase_true, bcase_false, need, Tryz.zero36, reads_nil, Tryz.fa57_4, addr_add, Tryz.agg3, reads_eq, reads_add, Tryz.size3, Tryz.fa57_3, Tryz.size36, reads_not, Tryz.fa57_0, Tryz.agg29, reads_sub, Tryz.agg36, Tryz.bd36_0_4_5, c3.ld4, c3.ld3, Nat.zero_add, wrap_n1 op (by omega)]
    refine store1 c3.rd Tryz.size3 rfl (by simp) fun h4 hu4 => ?_
    have c4 : Cx S n h4 r bv l p ext (op + 1) (gr + 1) := c3.on (Fm.upd hu4 (.inr rfl)) hu4.same c1.le (by omega) (by omega)
    have f4 : Fm h.size r h h4 := (f1.trans (Fm.upd hu3 (.inr rfl))).trans (Fm.upd hu4 (.inr rfl))
    have s4 : h4.size = h.size + 1 := by rw [hu4.size, hu3.size, s1]
    have b4 := (hu4.other h.size (by omega)).trans ((hu3.other h.size (by omega)).trans a1.at_)
    refine runs_closure hf hname hb ?_
    refine hread c4 ?_
    cases m with
    | out => exact hk.elim
    | bad code pos => exact fun e h' hf f => hk e h' (hf.more (by omega)) (f4.trans (f.less (by omega)))
    | ok x =>
      obtain ⟨t, p', gr'⟩ := x
      intro h5 vs f5 c5 ht
      have s5 := f5.size
      refine alloc_rule Tryz.zero36 fun h6 a6 => ?_
      have s6 := a6.size
      refine storeFull a6.at_ (xs := vs.toArray) (by rw [Tryz.size36]; simp [ht.len]) (by simp [ht.len, Value.cells]) (by simpa using ht.flat) fun h7 hu7 => ?_
      have s7 := hu7.size
      have c7 : Cx S n h7 r bv l p' ext (op + 1) gr' := (c5.al a6).upd hu7 c5.nle (by have := c5.rlt; omega)
      have f7 : Fm h.size r h h7 := ((f4.trans (f5.less (by omega))).trans (Fm.al a6 (by omega))).trans (Fm.upd hu7 (.inl (by omega)))
      have b7 := (hu7.other h.size (by omega)).trans ((a6.old h.size (by omega)).trans ((f5.same h.size (by omega) (by omega)).trans b4))
      have t7 : IsRe h7 (fun b => h4.size ≤ b ∧ b < h5.size) t vs := ht.frame fun b hb hlt => ⟨⟨hb, hlt⟩, (hu7.other b (by omega)).trans (a6.old b hlt)⟩
      simp only at hk
      refine Join0.intro (fun h' => isM l shut p' = true ∧ Fm h7.size r h7 h' ∧ Cx S n h' r bv l (p' + shut.length) ext (op + 1) gr') ?_ ?_
      · refine take_spec c7 hsh (fun hy h8 f8 c8 => ?_) (fun hn => ?_)
        · simp only [boolV_bool, bcase_true, bcase_false, need, Tryz.zero36, reads_nil, Tryz.fa57_4, addr_add, Tryz.agg3, reads_eq, reads_add, Tryz.size3, Tryz.fa57_3, Tryz.size36, reads_not, Tryz.fa57_0, Tryz.agg29, reads_sub, Tryz.agg36, Tryz.bd36_0_4_5]
          exact ⟨hy, f8, c8⟩
        · rw [if_neg (by simp [hn])] at hk
          simp only [boolV_bool, bcase_true, bcase_false, need, Tryz.zero36, reads_nil, Tryz.fa57_4, addr_add, Tryz.agg3, reads_eq, reads_add, Tryz.size3, Tryz.fa57_3, Tryz.size36, reads_not, Tryz.fa57_0, Tryz.agg29, reads_sub, Tryz.agg36, Tryz.bd36_0_4_5, c7.ld0, reads_blen c7.by_ Tryz.underlying29]
          exact fail_spec (code := 9) c7 (by omega) (by omega) fun e h' hf f => hk e h' (hf.more (by omega)) (f7.trans (f.less (by omega)))
      · rintro h8 ⟨hy, f8, c8⟩
        rw [if_pos hy] at hk
        have s8 := f8.size
        simp only [boolV_bool, bcase_true, bcase_false, need, Tryz.zero36, reads_nil, Tryz.fa57_4, addr_add, Tryz.agg3, reads_eq, reads_add, Tryz.size3, Tryz.fa57_3, Tryz.size36, reads_not, Tryz.fa57_0, Tryz.agg29, reads_sub, Tryz.agg36, Tryz.bd36_0_4_5, c8.ld3, Nat.zero_add]
        have ew : IntKind.i64.wrap (((op + 1 : Nat) : Int) - 1) = ((op : Nat) : Int) := by rw [wrap_s1 (op + 1) (by omega) (by omega)]; simp
        rw [ew]
        refine store1 c8.rd Tryz.size3 rfl (by simp) fun h9 hu9 => ?_
        have s9 := hu9.size
        have c9 : Cx S n h9 r bv l (p' + shut.length) ext op gr' := c8.on (Fm.upd hu9 (.inr rfl)) hu9.same c8.le (by have := c8.opg; omega) c8.g9
        have hr8 := c8.rlt
        have f9 : Fm h7.size r h7 h9 := f8.trans (Fm.upd hu9 (.inr rfl))
        have e9 : ∀ b, b < h7.size → b ≠ r → h9[b]? = h7[b]? := fun b hb hbr => f9.same b hb hbr
        refine load_all ((e9 h5.size (by omega) (by have := c5.rlt; omega)).trans hu7.same) (by rw [Tryz.agg36]; simp [ht.len]) ?_
        refine slice1_rule Tryz.info36 Tryz.underlying34 (by simp [Value.cells, ht.len]) (by omega) (by omega) fun h10 a10 => ?_
        have s10 := a10.size
        simp only [boolV_bool, bcase_true, bcase_false, need, Tryz.zero36, reads_nil, Tryz.fa57_4, addr_add, Tryz.agg3, reads_eq, reads_add, Tryz.size3, Tryz.fa57_3, Tryz.size36, reads_not, Tryz.fa57_0, Tryz.agg29, reads_sub, Tryz.agg36, Tryz.bd36_0_4_5]
        refine ret_re (t := .node 7 .zero 0 0 (gr + 1) [t]) (vs := reL 7 .zero 0 0 (gr + 1) (.slice (some ⟨h9.size, 0, none⟩) 1 1)) (Q := fun b => h.size < b) ((a10.old h.size (by omega)).trans ((e9 h.size (by omega) (by omega)).trans b7)) rfl (fun x hx => by omega)
          (IsRe.kid (vs := vs) a10.at_ (by omega) (t7.frame fun b hb hlt => ⟨by omega, (a10.old b (by omega)).trans (e9 b (by omega) (by omega))⟩)) fun h11 hu11 ht11 => ?_
        have s11 := hu11.size
        refine hk h11 _ (((f7.trans (f9.less (by omega))).trans (Fm.al a10 (by omega))).trans (Fm.upd hu11 (.inl (by omega)))) ((c9.al a10).upd hu11 c.nle (by omega)) (ht11.frame fun b hb _ => ⟨by omega, rfl⟩)
end Rt
end Go.Proofs
