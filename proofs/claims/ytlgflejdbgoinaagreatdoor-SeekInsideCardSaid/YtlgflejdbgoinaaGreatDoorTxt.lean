/- A part of the proofs over this seat: Txt. -/
import Derived.Test.YtlgflejdbgoinaaGreatDoorBld
set_option linter.unusedVariables false
set_option linter.unusedSimpArgs false
set_option maxRecDepth 100000
namespace Go.Proofs
open Go.Vcg
namespace Rt
attribute [local congr] Reads.congr ReadsS.congr pLoad.congr pLoadS.congr pStore.congr Runs.congr CallsH.congr bcase.congr boolV.congr Stable.congr pAlloc.congr
variable {n b : Nat} {h : Heap} {l : List UInt8} {R : Value → Heap → Prop} {E : List PanicEntry → Heap → Prop}

/-! ### Numbers, written -/
def W4.word (s : W4) (i : Nat) : Nat := match i with | 0 => s.a | 1 => s.b | 2 => s.c | _ => s.d
def W4.has (s : W4) (c : UInt8) : Bool := (s.word (c.toNat / 64)).testBit (c.toNat % 64)
theorem W4.word_lt {s : W4} (hs : s.ok) (i : Nat) : s.word i < 2 ^ 64 := by
  obtain ⟨h1, h2, h3, h4⟩ := hs
  unfold W4.word
  split <;> assumption
theorem shr_word {x m : Nat} (hm : m < 64) : ((x : Int).fdiv (2 ^ (min ((m : Int)).toNat IntKind.u64.bits))) = ((x >>> m : Nat) : Int) := by
  have e0 : min ((m : Int)).toNat IntKind.u64.bits = m := by simp [IntKind.bits]; omega
  rw [e0, Nat.shiftRight_eq_div_pow, Int.fdiv_eq_ediv_of_nonneg _ (by exact Int.le_of_lt (Int.pow_pos (by omega)))]
  simp
theorem and1_64 {y : Nat} (hy : y < 2 ^ 64) : (BitVec.ofInt 64 (y : Int) &&& BitVec.ofInt 64 1).toNat = y % 2 := by
  rw [BitVec.toNat_and, BitVec.ofInt_natCast, BitVec.toNat_ofNat, Nat.mod_eq_of_lt hy]
  have : (BitVec.ofInt 64 1).toNat = 1 := by decide
  rw [this, Nat.and_one_is_mod]
theorem and15_8 {y : Nat} (hy : y < 256) : (BitVec.ofInt 8 (y : Int) &&& BitVec.ofInt 8 15).toNat = y % 16 := by
  rw [BitVec.toNat_and, BitVec.ofInt_natCast, BitVec.toNat_ofNat, Nat.mod_eq_of_lt hy]
  have : (BitVec.ofInt 8 15).toNat = 2 ^ 4 - 1 := by decide
  rw [this, Nat.and_two_pow_sub_one_eq_mod]
def digitOf (d : Nat) : UInt8 := (([48, 49, 50, 51, 52, 53, 54, 55, 56, 57, 97, 98, 99, 100, 101, 102] : List UInt8)[d]?).getD 0
def baseM (base : Nat) (n : Nat) : List UInt8 := if h : n < base ∨ base < 2 then [digitOf n] else baseM base (n / base) ++ [digitOf (n % base)]
  termination_by n
  decreasing_by exact Nat.div_lt_self (by omega) (by omega)
theorem baseM_step {base n : Nat} (hb : 2 ≤ base) : baseM base n = (if n / base = 0 then [] else baseM base (n / base)) ++ [digitOf (n % base)] := by
  rw [baseM]
  by_cases hn : n < base
  · rw [dif_pos (.inl hn), Nat.div_eq_of_lt hn, if_pos rfl, Nat.mod_eq_of_lt hn]; rfl
  · have : n / base ≠ 0 := by have := Nat.div_pos (Nat.le_of_not_lt hn) (by omega); omega
    rw [dif_neg (by omega), if_neg this]
theorem baseM_len {base : Nat} (hb : 2 ≤ base) : ∀ (k n : Nat), n < 2 ^ (k + 1) → (baseM base n).length ≤ k + 1 := by
  intro k
  induction k with
  | zero =>
    intro n hn
    rw [baseM, dif_pos (.inl (by omega))]; simp
  | succ k ih =>
    intro n hn
    rw [baseM_step hb]
    split
    · simp
    · have : n / base < 2 ^ (k + 1) := by
        have h1 : n / base ≤ n / 2 := Nat.div_le_div_left hb (by omega)
        have h2 : 2 ^ (k + 1 + 1) = 2 ^ (k + 1) * 2 := Nat.pow_succ ..
        omega
      have := ih _ this
      simp; omega

theorem reads_sindexK {P : Program} {t : TypeId} {K : IntKind} {a : List UInt8} {i : Nat} {k : Value → Prop} (ht : P.underlying t = some .string) (hi : i < a.length) : Reads P (Instr.index t (str a) (.int K i)) h k = k (.int .u8 a[i].toNat) := reads_pure fun _ => by
  have h1 : (⟨a.toArray⟩ : ByteArray)[i]? = some a[i] := by
    rw [getElem?_pos (⟨a.toArray⟩ : ByteArray) i (by simpa [ByteArray.size] using hi)]; rfl
  simp [Instr.index, asIntOf, str, Go.underlying, program, Sem.run, ht, h1]
theorem reads_arrFrom {P : Program} {t e : TypeId} {m i : Nat} {b : Nat} {k : Value → Prop} (ht : P.underlying t = some (.array m e)) (hs : sizeT P e = some 1) (hi : i < m) :
    Reads P (Instr.sliceAt t (ptr b) (some (.int .i64 i)) none none) h k = k (.slice (some ⟨b, i, none⟩) (m - i) (m - i)) := reads_pure fun w => by
  have h1 : i ≤ m := by omega
  have h2 : ¬ m = i := by omega
  have h3 : ¬ (m < i) := by omega
  simp [Instr.sliceAt, Instr.sliceBounds, Instr.sliceBound, Instr.sureAddr, asIntOf, ptr, Go.underlying, program, Sem.run, ht, size_run hs, h1, h2, h3, addr_add]
theorem digit_at {d : Nat} (hd : d < 16) : ∃ h : d < ([48, 49, 50, 51, 52, 53, 54, 55, 56, 57, 97, 98, 99, 100, 101, 102] : List UInt8).length, ([48, 49, 50, 51, 52, 53, 54, 55, 56, 57, 97, 98, 99, 100, 101, 102] : List UInt8)[d] = digitOf d := by
  refine ⟨by simpa using hd, ?_⟩
  unfold digitOf
  rw [List.getElem?_eq_getElem (by simpa using hd)]
  rfl
theorem base_spec {B N : Nat} (h2 : 2 ≤ B) (h16 : B ≤ 16) (hN : N < 2 ^ 64) (hk : ∀ h', Fm h.size h.size h h' → R (str (baseM B N)) h') : CallsH Tryz.prog 61 #[.int .u64 N, .int .i64 B, .bool false] h R E := by
  refine C61 ?_
  unfold S61
  refine Join0.intro (fun h' => h' = h) ?_ ?_
  · rw [reads_lt, boolV_bool, decide_eq_false (by omega), bcase_false, reads_gt, boolV_bool, decide_eq_false (by omega), bcase_false]
  rintro h1 rfl
  refine Join1.intro (fun v h' => v = str [48, 49, 50, 51, 52, 53, 54, 55, 56, 57, 97, 98, 99, 100, 101, 102] ∧ h' = h1) ?_ ?_
  · rw [boolV_bool, bcase_false]; exact ⟨rfl, rfl⟩
  rintro t7 h2' ⟨rfl, rfl⟩
  refine alloc_rule Tryz.zero130 fun h3 a3 => ?_
  have s3 := a3.size
  have hl64 : (baseM B N).length ≤ 64 := baseM_len h2 63 N hN
  refine Loop2.fuel (fun k a c h' => ∃ (m : Nat) (at_ : Nat) (suf : List UInt8) (cs : Array Value), k = m ∧ a = .int .u64 m ∧ c = .int .i64 at_ ∧ m < 2 ^ 64 ∧ at_ + suf.length = 64 ∧ baseM B N = baseM B m ++ suf ∧ Fm h2'.size h2'.size h2' h' ∧
    h'[h2'.size]? = some (.cells cs 130 (0, 0)) ∧ cs.size = 64 ∧ cs.toList.drop at_ = suf.map bval) (n := N) ⟨N, 64, [], _, rfl, rfl, rfl, hN, rfl, by simp, Fm.al a3 (Nat.le_refl _), a3.at_, by rfl, by rfl⟩ fun k a c h4 hi => ?_
  obtain ⟨m, at_, suf, cs, rfl, rfl, rfl, hm, hat, hbase, f4, hb4, hcs, hdrop⟩ := hi
  have hpos : 1 ≤ (baseM B k).length := by rw [baseM_step h2]; simp
  have hlen : (baseM B k).length + suf.length ≤ 64 := by rw [hbase] at hl64; simpa using hl64
  have hat1 : 1 ≤ at_ := by omega
  have hd : k % B < 16 := by have := Nat.mod_lt k (by omega : B > 0); omega
  obtain ⟨hd1, hd2⟩ := digit_at hd
  have hw : IntKind.u64.wrap (B : Int) = (B : Int) := wrap_u64 (by omega)
  have hB0 : (B : Int) ≠ 0 := by omega
  have em : (k : Int).tmod (B : Int) = ((k % B : Nat) : Int) := by rw [Int.tmod_eq_emod_of_nonneg (by omega)]; rfl
  have eq : IntKind.u64.wrap ((k : Int).tdiv (B : Int)) = ((k / B : Nat) : Int) := by
    rw [Int.tdiv_eq_ediv_of_nonneg (by omega)]
    have : (k : Int) / (B : Int) = ((k / B : Nat) : Int) := rfl
    rw [this, wrap_u64 (Nat.lt_of_le_of_lt (Nat.div_le_self _ _) hm)]
  rw [reads_sub, wrap_s1 _ hat1 (by omega), reads_conv_int Tryz.underlying3 Tryz.underlying121, hw, reads_rem hB0, em, reads_sindexK Tryz.underlying9 hd1, hd2, reads_idxArr Tryz.underlying130 Tryz.size5 (by omega : at_ - 1 < 64), addr_add, Nat.zero_add, Nat.mul_one]
  refine store1 hb4 Tryz.size5 rfl (by omega) fun h5 hu5 => ?_
  rw [reads_conv_int Tryz.underlying3 Tryz.underlying121, hw, reads_quo hB0, eq, reads_eq, boolV_bool]
  have f5 : Fm h2'.size h2'.size h2' h5 := f4.trans (Fm.upd hu5 (.inl (Nat.le_refl _)))
  have hdrop' : (cs.setIfInBounds (at_ - 1) (Value.int IntKind.u8 (digitOf (k % B)).toNat)).toList.drop (at_ - 1) = (digitOf (k % B) :: suf).map bval := by
    rw [Array.toList_setIfInBounds, List.drop_set, if_neg (by omega), Nat.sub_self]
    have e1 : cs.toList.drop (at_ - 1) = cs.toList[at_ - 1]'(by simp; omega) :: cs.toList.drop at_ := by
      rw [List.drop_eq_getElem_cons (by simp; omega)]
      congr 2
      omega
    rw [e1, hdrop]
    rfl
  refine bcase_of (fun hc => ?_) (fun hc => ?_)
  · have hz : k / B = 0 := by have := of_decide_eq_true hc; omega
    have hall : baseM B N = digitOf (k % B) :: suf := by rw [hbase, baseM_step h2, if_pos hz]; rfl
    rw [reads_arrFrom Tryz.underlying130 Tryz.size5 (by omega : at_ - 1 < 64)]
    have hby : IsBytes h5 (.slice (some ⟨h2'.size, at_ - 1, none⟩) (64 - (at_ - 1)) (64 - (at_ - 1))) (digitOf (k % B) :: suf) := by
      have e64 : 64 - (at_ - 1) = (digitOf (k % B) :: suf).length := by simp; omega
      rw [e64]
      refine .inr ⟨_, _, _, rfl, Nat.le_refl _, fun i hi => ?_⟩
      rw [hcell_of hu5.same]
      have := congrArg (fun l => l[i]?) hdrop'
      simp only [List.getElem?_drop, List.getElem?_map, List.getElem?_eq_getElem hi, Option.map_some] at this
      rw [← Array.getElem?_toList]
      exact this
    rw [reads_bstring hby Tryz.underlying115 Tryz.underlying5 Tryz.underlying9, ← hall]
    exact hk h5 f5
  · have hz : k / B ≠ 0 := by have := of_decide_eq_false hc; omega
    have hlt : k / B < k := Nat.div_lt_self (Nat.pos_of_ne_zero (by rintro rfl; simp at hz)) (by omega)
    refine ⟨k / B, hlt, k / B, at_ - 1, digitOf (k % B) :: suf, _, rfl, rfl, rfl, by omega, by simp; omega, ?_, f5, hu5.same, by simpa using hcs, hdrop'⟩
    rw [hbase, baseM_step h2 (n := k), if_neg hz]
    simp
theorem baseM_lt {base n : Nat} (hn : n < base) : baseM base n = [digitOf n] := by rw [baseM, dif_pos (.inl hn)]
def hexM (c : UInt8) : List UInt8 := [digitOf (c.toNat / 16), digitOf (c.toNat % 16)]
theorem hexM_eq (c : UInt8) : baseM 16 (c.toNat / 16) ++ baseM 16 (c.toNat % 16) = hexM c := by
  have hc := c.toNat_lt
  rw [baseM_lt (by omega), baseM_lt (by omega)]
  rfl
theorem hexM_len (c : UInt8) : (hexM c).length ≤ 130 := by
  unfold hexM
  simp
/-- a number that is not below 0 -/
theorem num_spec {m : Nat} (hm : m < 2 ^ 63) (hk : ∀ h', Fm h.size h.size h h' → R (str (baseM 10 m)) h') : CallsH Tryz.prog 63 #[.int .i64 m] h R E := by
  refine C63 ?_
  unfold S63
  rw [reads_lt, boolV_bool, decide_eq_false (by omega), bcase_false, reads_conv_int Tryz.underlying2 Tryz.underlying121, wrap_u64 (by omega)]
  exact base_spec (B := 10) (by omega) (by omega) (by omega) hk
end Rt
end Go.Proofs
