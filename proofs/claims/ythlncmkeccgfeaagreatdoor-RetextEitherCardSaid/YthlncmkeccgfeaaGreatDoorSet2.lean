/- A part of the proofs over this seat: Set2. -/
import Derived.Test.YthlncmkeccgfeaaGreatDoorLow
import Derived.Great.FillDense
import Derived.Great.BuildSlice
set_option linter.unusedVariables false
set_option linter.unusedSimpArgs false
set_option maxRecDepth 100000
namespace Go.Proofs
open Go.Vcg Go.Extern
namespace Rt
attribute [local congr] Reads.congr ReadsS.congr pLoad.congr pLoadS.congr pStore.congr Runs.congr CallsH.congr bcase.congr boolV.congr Stable.congr pAlloc.congr
variable {S : Glb} {n : Nat} {h : Heap} {r : Nat} {R : Value → Heap → Prop} {E : List PanicEntry → Heap → Prop}

/-! ### Sets together -/
def W4.or (s t : W4) : W4 := ⟨s.a ||| t.a, s.b ||| t.b, s.c ||| t.c, s.d ||| t.d⟩
theorem W4.or_ok {s t : W4} (hs : s.ok) (ht : t.ok) : (s.or t).ok := ⟨Nat.or_lt_two_pow hs.1 ht.1, Nat.or_lt_two_pow hs.2.1 ht.2.1, Nat.or_lt_two_pow hs.2.2.1 ht.2.2.1, Nat.or_lt_two_pow hs.2.2.2 ht.2.2.2⟩
def W4.orK (s t : W4) (i : Nat) : W4 := ⟨if 0 < i then s.a ||| t.a else s.a, if 1 < i then s.b ||| t.b else s.b, if 2 < i then s.c ||| t.c else s.c, if 3 < i then s.d ||| t.d else s.d⟩
def unionM (l : List W4) : W4 := l.foldl W4.or .zero
theorem or_val {x y : Nat} (hx : x < 2 ^ 64) (hy : y < 2 ^ 64) : IntKind.u64.wrap (BitVec.ofInt IntKind.u64.bits (x : Int) ||| BitVec.ofInt IntKind.u64.bits (y : Int)).toNat = ((x ||| y : Nat) : Int) := by
  have e2 : ∀ y : Nat, y < 2 ^ 64 → (BitVec.ofInt IntKind.u64.bits (y : Int)).toNat = y := by
    intro y hy
    simp only [IntKind.bits, BitVec.ofInt_natCast, BitVec.toNat_ofNat]
    exact Nat.mod_eq_of_lt hy
  rw [BitVec.toNat_or, e2 x hx, e2 _ hy]
  exact u64_wrap (Nat.or_lt_two_pow hx hy)
def setRow (l : List W4) : List Value := l.flatMap W4.vals
theorem setRow_len : ∀ l : List W4, (setRow l).length = l.length * 4
  | [] => rfl
  | s :: l => by have := setRow_len l; simp only [setRow, List.flatMap_cons, List.length_append, List.length_cons] at *; rw [this]; simp [W4.vals]; omega
theorem setRow_get : ∀ (l : List W4) (i : Nat) (hi : i < l.length), ((setRow l).drop (i * 4)).take 4 = l[i].vals
  | s :: l, 0, _ => by simp [setRow, W4.vals]
  | s :: l, i + 1, hi => by
    have := setRow_get l i (by simpa using hi)
    have e : (setRow (s :: l)) = s.vals ++ setRow l := rfl
    rw [e, show (i + 1) * 4 = s.vals.length + i * 4 by simp [W4.vals]; omega, List.drop_append, List.drop_eq_nil_of_le (by omega), List.nil_append, Nat.add_sub_cancel_left]
    simpa using this
theorem unionM_ok {l : List W4} (h : ∀ s ∈ l, s.ok) : (unionM l).ok := by
  unfold unionM
  have : ∀ (l : List W4) (s : W4), s.ok → (∀ s ∈ l, s.ok) → (l.foldl W4.or s).ok := by
    intro l
    induction l with
    | nil => intro s hs _; exact hs
    | cons x l ih => intro s hs hl; exact ih _ (W4.or_ok hs (hl x (List.mem_cons_self ..))) fun y hy => hl y (List.mem_cons_of_mem _ hy)
  exact this l _ W4.zero_ok h
theorem sets_rule {vs : List W4} {parts : Array (Nat × Value)} {K : Value → Heap → Prop} (hp : parts.toList = ((vs.map fun s => Value.agg s.vals.toArray).zipIdx 0).map fun x => (x.2, x.1)) (h0 : vs ≠ []) (hl : vs.length ≤ 1000)
    (hk : ∀ h', Al h h' (.cells (setRow vs).toArray 33 (0, 0)) → K (.slice (some ⟨h.size, 0, none⟩) vs.length vs.length) h') : Runs Tryz.prog (vS (Instr.buildSlice 195 vs.length parts)) h K E := by
  intro w hw
  subst hw
  obtain ⟨i, hi, hz, hsz, _⟩ := Tryz.info33
  have hlen := List.length_pos_iff.2 h0
  have hf := Go.Great.fill_whole (s := 4) (by omega) (vs.map fun s => Value.agg s.vals.toArray) ((Array.range (vs.length * 4)).map ((Value.agg #[.int .u64 0, .int .u64 0, .int .u64 0, .int .u64 0]).cells[· % (Value.agg #[.int .u64 0, .int .u64 0, .int .u64 0, .int .u64 0]).cells.size]!)) (by
    intro v hv
    obtain ⟨s, _, rfl⟩ := List.mem_map.1 hv
    rfl) (by simp)
  have e := run_buildSlice (P := Tryz.prog) w 195 33 vs.length parts _ i _ Tryz.underlying195 hi hz (by rw [hsz]; omega) (by rw [hsz]; omega) (by rw [hsz, hp]; exact hf)
  have er : ((vs.map fun s => Value.agg s.vals.toArray).flatMap fun v => v.cells.toList) = setRow vs := by
    simp only [setRow, List.flatMap_map]
    rfl
  rw [er] at e
  simp only [vS, Sem.run_bind, e, Result.andThen_ok, Sem.run_pure, uponH]
  exact ⟨⟨rfl, rfl, rfl⟩, hk _ (Al.push ..)⟩
theorem union_spec {vs : List W4} {b c : Nat} (hb : h[b]? = some (.cells (setRow vs).toArray 33 (0, 0))) (hv : ∀ s ∈ vs, s.ok) (hl : vs.length ≤ 1000) (hk : ∀ h', Fm h.size h.size h h' → R (.agg (unionM vs).vals.toArray) h') :
    CallsH Tryz.prog 138 #[.slice (some ⟨b, 0, none⟩) vs.length c] h R E := by
  refine C138 ?_
  unfold S138
  refine alloc_rule Tryz.zero33 fun h1 a1 => alloc_rule Tryz.zero33 fun h2 a2 => ?_
  have s1 := a1.size
  have s2 := a2.size
  have lb := at_lt hb
  have f2 : Fm h.size h.size h h2 := (Fm.al a1 (Nat.le_refl _)).trans (Fm.al a2 (by omega))
  rw [reads_rlen Tryz.underlying195]
  refine Loop1.fuel (fun k a h' => ∃ i : Nat, a = .int .i64 i ∧ i ≤ vs.length ∧ k = vs.length - i ∧ Fm h.size h.size h h' ∧ h2.size ≤ h'.size ∧ h'[h1.size]? = some (.cells (unionM (vs.take i)).vals.toArray 33 (0, 0)) ∧ ∃ c2, h'[h.size]? = some (.cells c2 33 (0, 0)) ∧ c2.size = 4)
    (n := vs.length) ⟨0, rfl, by omega, by simp, f2, Nat.le_refl _, a2.at_, _, (a2.old _ (by omega)).trans a1.at_, rfl⟩ fun k a h3 hi => ?_
  obtain ⟨i, rfl, hi, rfl, f3, s3, b3, c2, d3, hc2⟩ := hi
  rw [reads_lt, dec_nn_lt, boolV_bool]
  refine bcase_of (fun hc => ?_) (fun hc => ?_)
  · have hlt : i < vs.length := of_decide_eq_true hc
    rw [reads_idxRow Tryz.underlying195 Tryz.size33 hlt, addr_add, Nat.zero_add]
    refine load_row ((f3.same b lb (by omega)).trans hb) Tryz.agg33 (by simp [setRow_len]; omega) ?_
    rw [List.toList_toArray, setRow_get vs i hlt]
    refine alloc_rule Tryz.zero33 fun h4 a4 => ?_
    have s4 := a4.size
    refine storeFull a4.at_ (xs := vs[i].vals.toArray) Tryz.size33 rfl (flat_vals _) fun h5 u5 => ?_
    have s5 := u5.size
    have f5 : Fm h.size h.size h h5 := (f3.trans (Fm.al a4 (by omega))).trans (Fm.upd u5 (.inl (by omega)))
    have b5 := (u5.other h1.size (by omega)).trans ((a4.old _ (by omega)).trans b3)
    have d5 := (u5.other h.size (by omega)).trans ((a4.old _ (by omega)).trans d3)
    have hok : (unionM (vs.take i)).ok := unionM_ok fun s hs => hv s (List.mem_of_mem_take hs)
    have hti : vs[i].ok := hv _ (List.getElem_mem hlt)
    have hnext : unionM (vs.take (i + 1)) = (unionM (vs.take i)).or vs[i] := by
      unfold unionM
      rw [List.take_add_one, List.getElem?_eq_getElem hlt, List.foldl_append]
      rfl
    generalize unionM (vs.take i) = s at *
    generalize vs[i] = t at *
    refine Loop1.fuel (fun k a h' => ∃ j : Nat, a = .int .i64 j ∧ j ≤ 4 ∧ k = 4 - j ∧ Fm h.size h.size h h' ∧ h2.size ≤ h'.size ∧ h'[h1.size]? = some (.cells (s.orK t j).vals.toArray 33 (0, 0)) ∧ h'[h3.size]? = some (.cells t.vals.toArray 33 (0, 0)) ∧ h'[h.size]? = some (.cells c2 33 (0, 0)))
      (n := 4) ⟨0, rfl, by omega, by omega, f5, by omega, b5, u5.same, d5⟩ fun k a h6 hj => ?_
    obtain ⟨j, rfl, hj, rfl, f6, s6, b6, e6, d6⟩ := hj
    rw [reads_lt, boolV_bool]
    refine bcase_of (fun hc => ?_) (fun hc => ?_)
    · have hj4 : j < 4 := by have := of_decide_eq_true hc; omega
      rw [reads_idxArr Tryz.underlying33 Tryz.size31 hj4, addr_add, Nat.zero_add, Nat.mul_one]
      have fin : ∀ x y : Nat, x < 2 ^ 64 → y < 2 ^ 64 → (s.orK t j).vals.toArray[j]? = some (.int .u64 x) → t.vals.toArray[j]? = some (.int .u64 y) → (s.orK t (j + 1)).vals.toArray = (s.orK t j).vals.toArray.setIfInBounds j (.int .u64 (x ||| y : Nat)) →
          pLoad Tryz.prog 31 (.pointer (some ⟨h1.size, j, none⟩)) h6 fun t18 => Reads Tryz.prog (Instr.indexAt 33 (.pointer (some ⟨h3.size, 0, none⟩)) (.int .i64 j)) h6 fun t20 => pLoad Tryz.prog 31 t20 h6 fun t21 => Reads Tryz.prog (binS .or 31 false t18 t21) h6 fun t22 =>
            Reads Tryz.prog (Instr.indexAt 33 (.pointer (some ⟨h1.size, 0, none⟩)) (.int .i64 j)) h6 fun t23 => (pStore Tryz.prog 31 t23 t22 h6 fun h7 => True ∧ (Reads Tryz.prog (binS .add 3 true (.int .i64 j) (.int .i64 1)) h7 fun t24 =>
              ∃ q, q < 4 - j ∧ ∃ j : Nat, t24 = .int .i64 j ∧ j ≤ 4 ∧ q = 4 - j ∧ Fm h.size h.size h h7 ∧ h2.size ≤ h7.size ∧ h7[h1.size]? = some (.cells (s.orK t j).vals.toArray 33 (0, 0)) ∧ h7[h3.size]? = some (.cells t.vals.toArray 33 (0, 0)) ∧ h7[h.size]? = some (.cells c2 33 (0, 0)))) ∧ True := by
        intro x y hx hy h1' h2' h3'
        rw [pLoad_one (v := .int .u64 x) Tryz.agg31 (by rw [hcell_of b6]; exact h1'), reads_idxArr Tryz.underlying33 Tryz.size31 hj4, addr_add, Nat.zero_add, Nat.mul_one, pLoad_one (v := .int .u64 y) Tryz.agg31 (by rw [hcell_of e6]; exact h2'),
          reads_or, or_val hx hy, reads_idxArr Tryz.underlying33 Tryz.size31 hj4, addr_add, Nat.zero_add, Nat.mul_one]
        refine ⟨?_, trivial⟩
        refine store1 b6 Tryz.size31 rfl (by simp [W4.vals]; omega) fun h7 u7 => ?_
        have s7 := u7.size
        refine ⟨trivial, ?_⟩
        rw [reads_add, wrap_n1 _ (by omega)]
        refine ⟨4 - (j + 1), by omega, j + 1, rfl, by omega, rfl, f6.trans (Fm.upd u7 (.inl (by omega))), by omega, ?_, (u7.other _ (by omega)).trans e6, (u7.other _ (by omega)).trans d6⟩
        rw [u7.same, h3']
      rcases (by omega : j = 0 ∨ j = 1 ∨ j = 2 ∨ j = 3) with e | e | e | e
      · exact fin s.a t.a hok.1 hti.1 (by rw [e]; rfl) (by rw [e]; rfl) (by rw [e]; rfl)
      · exact fin s.b t.b hok.2.1 hti.2.1 (by rw [e]; rfl) (by rw [e]; rfl) (by rw [e]; rfl)
      · exact fin s.c t.c hok.2.2.1 hti.2.2.1 (by rw [e]; rfl) (by rw [e]; rfl) (by rw [e]; rfl)
      · exact fin s.d t.d hok.2.2.2 hti.2.2.2 (by rw [e]; rfl) (by rw [e]; rfl) (by rw [e]; rfl)
    · have hj4 : j = 4 := by have := of_decide_eq_false hc; omega
      subst hj4
      rw [reads_add, wrap_n1 _ (by omega)]
      exact ⟨vs.length - (i + 1), by omega, i + 1, rfl, by omega, rfl, f6, s6, by rw [hnext]; exact b6, c2, d6, hc2⟩
  · have hil : i = vs.length := by have := of_decide_eq_false hc; omega
    subst hil
    rw [List.take_length] at b3
    refine load_all b3 Tryz.agg33 ?_
    refine ret_full d3 Tryz.size33 Tryz.agg33 hc2 (flat_vals _) fun h4 u4 => ?_
    exact hk h4 (f3.trans (Fm.upd u4 (.inl (Nat.le_refl _))))

def rangeW (lo hi : Nat) : W4 := (List.range' lo (hi + 1 - lo)).foldl (fun s b => s.put (u8 b)) .zero
theorem fold_ok : ∀ (l : List Nat) {s : W4}, s.ok → (l.foldl (fun s b => s.put (u8 b)) s).ok
  | [], s, h => h
  | c :: l, s, h => fold_ok l (W4.put_ok h (u8 c))
theorem rangeW_ok (lo hi : Nat) : (rangeW lo hi).ok := fold_ok _ W4.zero_ok
theorem range_spec {lo hi : UInt8} (hk : ∀ h', Fm h.size h.size h h' → R (.agg (rangeW lo.toNat hi.toNat).vals.toArray) h') : CallsH Tryz.prog 141 #[.int .u8 lo.toNat, .int .u8 hi.toNat] h R E := by
  have hlo := lo.toNat_lt
  have hhi := hi.toNat_lt
  refine C141 ?_
  unfold S141
  refine alloc_rule Tryz.zero33 fun h1 a1 => alloc_rule Tryz.zero33 fun h2 a2 => ?_
  have s1 := a1.size
  have s2 := a2.size
  have f2 : Fm h.size h.size h h2 := (Fm.al a1 (Nat.le_refl _)).trans (Fm.al a2 (by omega))
  have cv : ∀ {h' : Heap} {x : Nat} {k : Value → Prop}, x < 256 → Reads Tryz.prog (convert 5 3 (.int .u8 x)) h' k = k (.int .i64 x) := fun hx => by
    rw [reads_conv_int Tryz.underlying5 Tryz.underlying3, wrapN _ _ rfl (by omega)]
  rw [cv hlo]
  refine Loop1.fuel (fun k a h' => ∃ i : Nat, a = .int .i64 i ∧ lo.toNat ≤ i ∧ k + i = 300 ∧ Fm h.size h.size h h' ∧ i ≤ 256 ∧ (i ≤ lo.toNat ∨ i ≤ hi.toNat + 1) ∧ h'.size = h2.size ∧ h'[h1.size]? = some (.cells ((List.range' lo.toNat (i - lo.toNat)).foldl (fun s b => s.put (u8 b)) W4.zero).vals.toArray 33 (0, 0)) ∧ h'[h.size]? = h2[h.size]?)
    (n := 300 - lo.toNat) ⟨lo.toNat, rfl, Nat.le_refl _, by omega, f2, by omega, .inl (Nat.le_refl _), rfl, by rw [Nat.sub_self]; exact a2.at_, rfl⟩ fun k a h3 hi' => ?_
  obtain ⟨i, rfl, hli, hki, f3, hi256, hor, s3, b3, d3⟩ := hi'
  rw [cv hhi, reads_le, dec_nn_le, boolV_bool]
  refine bcase_of (fun hc => ?_) (fun hc => ?_)
  · have hle : i ≤ hi.toNat := of_decide_eq_true hc
    rw [reads_conv_int Tryz.underlying3 Tryz.underlying5, wrap_u8 (by omega), val_u8 (by omega)]
    refine put_spec (fold_ok _ W4.zero_ok) b3 fun h4 u4 => ?_
    have s4 := u4.size
    rw [reads_add, wrap_n1 _ (by omega)]
    refine ⟨k - 1, by omega, i + 1, rfl, by omega, by omega, f3.trans (Fm.upd u4 (.inl (by omega))), by omega, .inr (by omega), by omega, ?_, (u4.other _ (by omega)).trans d3⟩
    rw [u4.same, show i + 1 - lo.toNat = (i - lo.toNat) + 1 by omega, List.range'_concat, List.foldl_append]
    simp only [List.foldl_cons, List.foldl_nil, Nat.one_mul]
    rw [show lo.toNat + (i - lo.toNat) = i by omega]
  · have hgt : hi.toNat < i := by have := of_decide_eq_false hc; omega
    refine load_all b3 Tryz.agg33 ?_
    refine ret_full (d3.trans ((a2.old _ (by omega)).trans a1.at_)) Tryz.size33 Tryz.agg33 rfl (flat_vals _) fun h4 u4 => ?_
    have := hk h4 (f3.trans (Fm.upd u4 (.inl (Nat.le_refl _))))
    unfold rangeW at this
    have e : i - lo.toNat = hi.toNat + 1 - lo.toNat := by omega
    rw [e]
    exact this
end Rt
end Go.Proofs
