/- A part of the proofs over this seat: Low. -/
import Derived.Test.YthlncmkeccgfeaaGreatDoorExt
set_option linter.unusedVariables false
set_option linter.unusedSimpArgs false
set_option maxRecDepth 100000
namespace Go.Proofs
open Go.Vcg
namespace Rt
attribute [local congr] Reads.congr ReadsS.congr pLoad.congr pLoadS.congr pStore.congr Runs.congr CallsH.congr bcase.congr boolV.congr Stable.congr pAlloc.congr
variable {S : Glb} {n : Nat} {h : Heap} {r : Nat} {R : Value → Heap → Prop} {E : List PanicEntry → Heap → Prop}

theorem readsS_lift {P : Program} {s : Sem Value} {v : Value} {St : Heap → Prop} {k : Value → Prop} (hr : ∀ (h : Heap) (k : Value → Prop), Reads P s h k = k v) (hk : k v) : ReadsS P s St k := by
  refine ⟨v, fun w hw => ?_, hk⟩
  have h0 : Reads P s w.heap (fun x => x = v) := by rw [hr]
  obtain ⟨v', h1, rfl⟩ := h0
  exact h1 w rfl
theorem pLoadS_one {P : Program} {T : TypeId} {a : Addr} {v : Value} {St : Heap → Prop} {k : Value → Prop} (hT : aggN P T = some none) (hc : ∀ h, St h → hcell h a = some v) (hk : k v) : pLoadS P T (.pointer (some a)) St k := by
  unfold pLoadS
  simp only [hT]
  exact ⟨v, hc, hk⟩
theorem pLoadS_all {P : Program} {T t : TypeId} {b : Nat} {cs : Array Value} {St : Heap → Prop} {k : Value → Prop} (hT : aggN P T = some (some cs.size)) (hc : ∀ h, St h → h[b]? = some (.cells cs t (0, 0))) (hk : k (.agg cs)) :
    pLoadS P T (.pointer (some ⟨b, 0, none⟩)) St k := by
  unfold pLoadS
  simp only [hT]
  refine ⟨cs.toList, fun h hs => ?_, by simpa using hk⟩
  have := hcells_of (hc h hs) cs.size 0 0 (by omega)
  rw [this, List.drop_zero, List.take_of_length_le (by simp)]
theorem wrap_u64 {x : Nat} (hx : x < 2 ^ 64) : IntKind.u64.wrap (x : Int) = (x : Int) := u64_wrap hx
theorem wrap_u8 {x : Nat} (hx : x < 256) : IntKind.u8.wrap (x : Int) = (x : Int) := by
  simp only [IntKind.wrap, IntKind.bits, IntKind.signed]
  simp
  omega
theorem Fm.lift {n m r : Nat} {h h' : Heap} (f : Fm h.size m h h') (hn : n ≤ h.size) (hm : n ≤ m) : Fm n r h h' := ⟨f.size, fun k hk _ => f.same k (by omega) (by omega)⟩
def u8 (i : Nat) : UInt8 := UInt8.ofNat i
theorem u8_toNat {i : Nat} (h : i < 256) : (u8 i).toNat = i := by
  unfold u8
  rw [UInt8.toNat_ofNat']
  omega
theorem val_u8 {i : Nat} (h : i < 256) : Value.int .u8 (i : Int) = .int .u8 ((u8 i).toNat : Int) := by rw [u8_toNat h]
def nt (x : Nat) : Nat := 2 ^ 64 - 1 - x
def W4.notK (s : W4) (i : Nat) : W4 := ⟨if 0 < i then nt s.a else s.a, if 1 < i then nt s.b else s.b, if 2 < i then nt s.c else s.c, if 3 < i then nt s.d else s.d⟩
def W4.not (s : W4) : W4 := ⟨nt s.a, nt s.b, nt s.c, nt s.d⟩
theorem W4.not_ok (s : W4) : s.not.ok := by
  refine ⟨?_, ?_, ?_, ?_⟩ <;> simp only [W4.not, nt] <;> omega
theorem xor_all {x : Nat} (hx : x < 2 ^ 64) : (BitVec.ofInt 64 (x : Int) ^^^ BitVec.ofInt 64 18446744073709551615).toNat = nt x := by
  have h1 : BitVec.ofInt 64 18446744073709551615 = BitVec.allOnes 64 := by decide
  rw [h1, BitVec.xor_allOnes, BitVec.toNat_not, BitVec.ofInt_natCast, BitVec.toNat_ofNat, Nat.mod_eq_of_lt hx]
  rfl
theorem reads_nt {x : Nat} {k : Value → Prop} (hx : x < 2 ^ 64) : Reads Tryz.prog (Op.unary .xor (.int .u64 x)) h k = k (.int .u64 (nt x : Nat)) := by
  rw [reads_xor]
  have e : (BitVec.ofInt IntKind.u64.bits (x : Int) ^^^ BitVec.ofInt IntKind.u64.bits (if IntKind.u64.signed = true then -1 else IntKind.u64.max)).toNat = nt x := xor_all hx
  rw [e, wrap_u64 (by unfold nt; omega)]
theorem flat_vals (s : W4) : ∀ v ∈ s.vals.toArray.toList, flat v = true := by
  intro v hv
  simp only [W4.vals, List.mem_cons, List.not_mem_nil, or_false] at hv
  rcases hv with rfl | rfl | rfl | rfl <;> rfl
theorem not_spec {s : W4} (hs : s.ok) (hk : ∀ h', Fm h.size h.size h h' → R (.agg s.not.vals.toArray) h') : CallsH Tryz.prog 96 #[.agg s.vals.toArray] h R E := by
  refine C96 ?_
  unfold S96
  refine new_rule fun h1 a1 => alloc_rule Tryz.zero33 fun h2 a2 => ?_
  have s1 := a1.size
  have s2 := a2.size
  have f2 : Fm h.size h.size h h2 := (Fm.al a1 (Nat.le_refl _)).trans (Fm.al a2 (by omega))
  refine Loop1.fuel (fun k a h' => ∃ i : Nat, a = .int .i64 i ∧ i ≤ 4 ∧ k = 4 - i ∧ Fm h.size h.size h h' ∧ h'[h.size]? = some (.cells (s.notK i).vals.toArray 33 (0, 0)) ∧ ∃ c2, h'[h1.size]? = some (.cells c2 33 (0, 0)) ∧ c2.size = 4)
    (n := 4) ⟨0, rfl, by omega, by omega, f2, ?_, _, a2.at_, rfl⟩ fun k a h3 hi => ?_
  · rw [a2.old _ (by omega)]
    exact a1.at_
  obtain ⟨i, rfl, hi, rfl, f3, hb, c2, hb2, hc2⟩ := hi
  rw [reads_lt, boolV_bool]
  refine bcase_of (fun hc => ?_) (fun hc => ?_)
  · have hlt : i < 4 := by have := of_decide_eq_true hc; omega
    rw [reads_idxArr Tryz.underlying33 Tryz.size31 hlt, addr_add, Nat.zero_add, Nat.mul_one]
    have fin : ∀ x : Nat, x < 2 ^ 64 → (s.notK i).vals.toArray[i]? = some (.int .u64 x) → (s.notK (i + 1)).vals.toArray = (s.notK i).vals.toArray.setIfInBounds i (.int .u64 (nt x : Nat)) →
        pLoad Tryz.prog 31 (.pointer (some ⟨h.size, i, none⟩)) h3 fun t10 => Reads Tryz.prog (Op.unary .xor t10) h3 fun t11 => Reads Tryz.prog (Instr.indexAt 33 (.pointer (some ⟨h.size, 0, none⟩)) (.int .i64 i)) h3 fun t12 => pStore Tryz.prog 31 t12 t11 h3 fun h4 =>
          Reads Tryz.prog (binS .add 3 true (.int .i64 i) (.int .i64 1)) h4 fun t13 => ∃ j, j < 4 - i ∧ ∃ i : Nat, t13 = .int .i64 i ∧ i ≤ 4 ∧ j = 4 - i ∧ Fm h.size h.size h h4 ∧ h4[h.size]? = some (.cells (s.notK i).vals.toArray 33 (0, 0)) ∧ ∃ c2, h4[h1.size]? = some (.cells c2 33 (0, 0)) ∧ c2.size = 4 := by
      intro x hx hv he
      rw [pLoad_one (v := .int .u64 x) Tryz.agg31 (by rw [hcell_of hb]; exact hv), reads_nt hx, reads_idxArr Tryz.underlying33 Tryz.size31 hlt, addr_add, Nat.zero_add, Nat.mul_one]
      refine store1 hb Tryz.size31 rfl (by simp [W4.vals]; omega) fun h4 hu => ?_
      rw [reads_add, wrap_n1 _ (by omega)]
      refine ⟨4 - (i + 1), by omega, i + 1, rfl, by omega, rfl, f3.trans (Fm.upd hu (.inl (Nat.le_refl _))), ?_, c2, (hu.other _ (by omega)).trans hb2, hc2⟩
      rw [hu.same, he]
    obtain ⟨h1', h2', h3', h4'⟩ := hs
    rcases (by omega : i = 0 ∨ i = 1 ∨ i = 2 ∨ i = 3) with e | e | e | e
    · exact fin s.a h1' (by rw [e]; rfl) (by rw [e]; rfl)
    · exact fin s.b h2' (by rw [e]; rfl) (by rw [e]; rfl)
    · exact fin s.c h3' (by rw [e]; rfl) (by rw [e]; rfl)
    · exact fin s.d h4' (by rw [e]; rfl) (by rw [e]; rfl)
  · have hil : i = 4 := by have := of_decide_eq_false hc; omega
    subst hil
    refine load_all hb Tryz.agg33 ?_
    refine ret_full hb2 Tryz.size33 Tryz.agg33 hc2 (flat_vals _) fun h4 hu => ?_
    exact hk h4 (f3.trans (Fm.upd hu (.inl (by omega))))
def anyW : W4 := W4.zero.not
theorem any_spec (hk : ∀ h', Fm h.size h.size h h' → R (.agg anyW.vals.toArray) h') : CallsH Tryz.prog 66 #[] h R E := by
  refine C66 ?_
  unfold S66
  refine alloc_rule Tryz.zero33 fun h1 a1 => ?_
  have s1 := a1.size
  rw [Tryz.bd33]
  refine not_spec (s := W4.zero) W4.zero_ok fun h2 f2 => ?_
  have hb := (f2.same h.size (by omega) (by omega)).trans a1.at_
  refine ret_full hb Tryz.size33 Tryz.agg33 rfl (flat_vals _) fun h3 hu => ?_
  exact hk h3 (((Fm.al a1 (Nat.le_refl _)).trans (Fm.lift f2 (by omega) (by omega))).trans (Fm.upd hu (.inl (Nat.le_refl _))))

theorem pLoadS_row {P : Program} {T t : TypeId} {b off m : Nat} {cs : Array Value} {St : Heap → Prop} {k : Value → Prop} (hT : aggN P T = some (some m)) (hl : off + m ≤ cs.size) (hc : ∀ h, St h → h[b]? = some (.cells cs t (0, 0)))
    (hk : k (.agg ((cs.toList.drop off).take m).toArray)) : pLoadS P T (.pointer (some ⟨b, off, none⟩)) St k := by
  unfold pLoadS
  simp only [hT]
  exact ⟨_, fun h hs => hcells_of (hc h hs) m 0 off (by omega), hk⟩
theorem IsErr.fm {h' : Heap} {q lang code pos : Nat} {e : Value} (he : IsErr S h q lang code pos e) (f : ∀ k, k < h.size → q ≤ k → h'[k]? = h[k]?) : IsErr S h' q lang code pos e := by
  obtain ⟨a, b, ha, hb, rfl, e1, e2⟩ := he
  exact ⟨a, b, ha, hb, rfl, (f a (at_lt e1) ha).trans e1, (f b (at_lt e2) hb).trans e2⟩
theorem IsErr.less {q q' lang code pos : Nat} {e : Value} (he : IsErr S h q lang code pos e) (hq : q' ≤ q) : IsErr S h q' lang code pos e := by
  obtain ⟨a, b, ha, hb, h⟩ := he
  exact ⟨a, b, by omega, by omega, h⟩
theorem at_spec {t : TypeId} {u : Value} {pos : Nat} (hk : ∀ h', Al h h' (.cells #[.iface t u, .int .i64 pos] 80 (0, 0)) → R (.iface 77 (ptr h.size)) h') : CallsH Tryz.prog 26 #[.iface t u, .int .i64 pos] h R E := by
  refine C26 ?_
  unfold S26
  simp only [boolV_bool, bcase_true, bcase_false, need, Tryz.eql26_s, Tryz.eql26_n, Tryz.bd80_0_1]
  refine new_rule fun h1 a1 => ?_
  simp only [reads_mkiface Tryz.underlying77 (by simp)]
  exact hk h1 a1
theorem in_spec {t : TypeId} {u : Value} {lang : Nat} (hk : ∀ h', Al h h' (.cells #[.iface t u, .int .i64 lang] 84 (0, 0)) → R (.iface 81 (ptr h.size)) h') : CallsH Tryz.prog 25 #[.iface t u, .int .i64 lang] h R E := by
  refine C25 ?_
  unfold S25
  simp only [boolV_bool, bcase_true, bcase_false, need, Tryz.eql26_s, Tryz.eql26_n, Tryz.bd84_0_1]
  refine new_rule fun h1 a1 => ?_
  simp only [reads_mkiface Tryz.underlying81 (by simp)]
  exact hk h1 a1
end Rt
end Go.Proofs
