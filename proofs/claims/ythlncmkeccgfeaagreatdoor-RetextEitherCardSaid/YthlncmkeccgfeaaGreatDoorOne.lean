/- A part of the proofs over this seat: One. -/
import Derived.Test.YthlncmkeccgfeaaGreatDoorCop
set_option linter.unusedVariables false
set_option linter.unusedSimpArgs false
set_option maxRecDepth 100000
namespace Go.Proofs
open Go.Vcg
namespace Rt
attribute [local congr] Reads.congr ReadsS.congr pLoad.congr pLoadS.congr pStore.congr Runs.congr CallsH.congr bcase.congr boolV.congr Stable.congr pAlloc.congr
variable {S : Glb} {n : Nat} {h : Heap} {r : Nat} {bv : Value} {l : List UInt8} {p : Nat} {ext : Bool} {op gr : Nat} {R : Value → Heap → Prop} {E : List PanicEntry → Heap → Prop}

theorem put_word {s : W4} {c : UInt8} (hs : s.ok) : ∃ x : Nat, x < 2 ^ 64 ∧ s.vals[c.toNat / 64]? = some (.int .u64 x) ∧ (s.put c).vals.toArray = s.vals.toArray.setIfInBounds (c.toNat / 64) (.int .u64 ((x ||| 2 ^ (c.toNat % 64) : Nat) : Int)) := by
  obtain ⟨h1, h2, h3, h4⟩ := hs
  have hc := c.toNat_lt
  rcases (by omega : c.toNat / 64 = 0 ∨ c.toNat / 64 = 1 ∨ c.toNat / 64 = 2 ∨ c.toNat / 64 = 3) with hq | hq | hq | hq
  · exact ⟨s.a, h1, by rw [hq]; rfl, by simp [W4.put, hq, W4.vals]⟩
  · exact ⟨s.b, h2, by rw [hq]; rfl, by simp [W4.put, hq, W4.vals]⟩
  · exact ⟨s.c, h3, by rw [hq]; rfl, by simp [W4.put, hq, W4.vals]⟩
  · exact ⟨s.d, h4, by rw [hq]; rfl, by simp [W4.put, hq, W4.vals]⟩
theorem vals_flat {s : W4} : ∀ v ∈ s.vals.toArray.toList, flat v = true := by
  intro v hv
  simp only [W4.vals, List.mem_cons, List.not_mem_nil, or_false] at hv
  rcases hv with rfl | rfl | rfl | rfl <;> rfl

theorem add_spec {s : W4} {c : UInt8} (hs : s.ok) (hk : ∀ h', Fm h.size h.size h h' → R (.agg (s.put c).vals.toArray) h') : CallsH Tryz.prog 33 #[.agg s.vals.toArray, .int .u8 c.toNat] h R E := by
  refine C33 ?_
  unfold S33
  refine new_rule fun h1 a1 => alloc_rule Tryz.zero33 fun h2 a2 => ?_
  have s1 := a1.size
  have s2 := a2.size
  have b1 : h2[h.size]? = some (.cells s.vals.toArray 33 (0, 0)) := (a2.old h.size (by omega)).trans a1.at_
  have hc : c.toNat / 64 < 4 := by have := c.toNat_lt; omega
  have hm : c.toNat % 64 < 64 := Nat.mod_lt _ (by omega)
  have hn : ¬ ((c.toNat % 64 : Nat) : Int) < 0 := by omega
  obtain ⟨x, hx, hv, he⟩ := put_word (c := c) hs
  rw [reads_quo (by omega : (64 : Int) ≠ 0), u8_quo, reads_idxArr Tryz.underlying33 Tryz.size31 hc, addr_add, Nat.zero_add, Nat.mul_one, pLoad_one (v := .int .u64 x) Tryz.agg31 (by rw [hcell_of b1]; simpa using hv),
    reads_rem (by omega : (64 : Int) ≠ 0), u8_rem, reads_shl hn, reads_or, or_word hx hm, reads_idxArr Tryz.underlying33 Tryz.size31 hc, addr_add, Nat.zero_add, Nat.mul_one]
  refine store1 b1 Tryz.size31 rfl (by simp [W4.vals]; omega) fun h3 hu3 => ?_
  have b3 := hu3.same
  rw [← he] at b3
  refine load_all b3 Tryz.agg33 ?_
  refine ret_full ((hu3.other h1.size (by omega)).trans a2.at_) Tryz.size33 Tryz.agg33 rfl vals_flat fun h4 hu4 => ?_
  exact hk h4 ((((Fm.al a1 (Nat.le_refl _)).trans (Fm.al a2 (by omega))).trans (Fm.upd hu3 (.inl (Nat.le_refl _)))).trans (Fm.upd hu4 (.inl (by omega))))

theorem one_spec {c : UInt8} (hk : ∀ h', Fm h.size h.size h h' → R (.agg (reL 1 (setOf [c]) 0 0 0 (.slice none 0 0)).toArray) h') : CallsH Tryz.prog 15 #[.int .u8 c.toNat] h R E := by
  refine C15 ?_
  unfold S15
  refine alloc_rule Tryz.zero36 fun h1 a1 => ?_
  have s1 := a1.size
  rw [Tryz.bd33]
  refine add_spec (s := W4.zero) W4.zero_ok fun h2 f2 => ?_
  have e : (Value.agg (W4.put W4.zero c).vals.toArray) = .agg #[.int .u64 (setOf [c]).a, .int .u64 (setOf [c]).b, .int .u64 (setOf [c]).c, .int .u64 (setOf [c]).d] := rfl
  rw [e, Tryz.bd36_0_1]
  have f12 : Fm h.size h.size h1 h2 := ⟨f2.size, fun k hk _ => f2.same k (by omega) (by omega)⟩
  refine ret_re (t := single c) (vs := reL 1 (setOf [c]) 0 0 0 (.slice none 0 0)) (Q := fun _ => False) ((f2.same h.size (by omega) (by omega)).trans a1.at_) rfl (fun _ h => h.elim) IsRe.leaf fun h3 hu3 ht3 => ?_
  exact hk h3 (((Fm.al a1 (Nat.le_refl _)).trans f12).trans (Fm.upd hu3 (.inl (Nat.le_refl _))))
end Rt
end Go.Proofs
