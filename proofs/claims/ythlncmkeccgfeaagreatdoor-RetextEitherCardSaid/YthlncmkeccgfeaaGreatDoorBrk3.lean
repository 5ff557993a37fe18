/- A part of the proofs over this seat: Brk3. -/
import Derived.Test.YthlncmkeccgfeaaGreatDoorBrk2
set_option linter.unusedVariables false
set_option linter.unusedSimpArgs false
set_option maxRecDepth 100000
namespace Go.Proofs
open Go.Vcg Go.Extern
namespace Rt
attribute [local congr] Reads.congr ReadsS.congr pLoad.congr pLoadS.congr pStore.congr Runs.congr CallsH.congr bcase.congr boolV.congr Stable.congr pAlloc.congr
variable {S : Glb} {n : Nat} {h : Heap} {r : Nat} {bv : Value} {l : List UInt8} {p lang : Nat} {R : Value → Heap → Prop} {E : List PanicEntry → Heap → Prop}

theorem rangedS_ok {x : ItemR} {frm : Nat} {y : W4 × Nat} (hx : x.2.2.1.ok) (h : rangedS lang l frm x = .ok y) : y.1.ok := by
  unfold rangedS at h
  split at h
  · cases h; exact hx
  · split at h
    · split at h
      · cases h
      · split at h
        · cases h
        · cases h; exact rangeW_ok _ _
    · cases h
    · cases h
theorem rangedS_le {x : ItemR} {frm : Nat} {y : W4 × Nat} (hx : x.2.2.2 ≤ l.length) (h : rangedS lang l frm x = .ok y) : x.2.2.2 ≤ y.2 ∧ y.2 ≤ l.length := by
  unfold rangedS at h
  split at h
  · cases h; exact ⟨Nat.le_refl _, hx⟩
  · rename_i hc
    split at h
    · rename_i z hz
      split at h
      · cases h
      · split at h
        · cases h
        · cases h
          simp only [Bool.or_eq_true, decide_eq_true_eq, not_or] at hc
          have := itemS_le (by omega) hz
          omega
    · cases h
    · cases h
theorem read_spec (c : Bx S n h r bv l p lang) (hk : OwesS S n h r bv l lang (bracketS lang l p) R) : CallsH Tryz.prog 129 #[ptr r] h R E := by
  have hr := at_lt c.rd
  have hl := c.len
  have hpl := c.le
  have hnl := c.nle
  refine C129 ?_
  unfold S129
  refine alloc_rule Tryz.zero33 fun h1 a1 => ?_
  have s1 := a1.size
  have c1 := c.al a1
  have rt1 : h1[h.size]? = some (.cells (Value.agg #[.int .u64 0, .int .u64 0, .int .u64 0, .int .u64 0]).cells 33 (0, 0)) := a1.at_
  refine Join1.intro (fun v h' => h' = h1 ∧ v = .bool (turnedS lang l p)) ?_ ?_
  · refine isB_spec (k := 0) (x := 94) c1 (by omega) ?_
    rw [Nat.add_zero, boolV_bool]
    refine bcase_of (fun h94 => ⟨rfl, rfl, rfl, rfl, rfl, rfl, by unfold turnedS; rw [h94]; rfl⟩) (fun h94 => ?_)
    refine isB_spec (k := 0) (x := 33) c1 (by omega) ?_
    rw [Nat.add_zero, boolV_bool]
    refine bcase_of (fun h33 => ?_) (fun h33 => ⟨rfl, by unfold turnedS; rw [h94, h33]; rfl⟩)
    rw [reads_nil, Tryz.fa177_2, addr_add, Nat.zero_add, c1.ld2, reads_eq, show (2 : Int) = ((2 : Nat) : Int) from rfl, dec_nn_eq]
    exact ⟨rfl, by unfold turnedS; rw [h94, h33]; rfl⟩
  rintro v h2 ⟨rfl, rfl⟩
  generalize htd : turnedS lang l p = td at *
  have hq0 : (if td then p + 1 else p) ≤ l.length := by
    cases td with
    | false => exact hpl
    | true =>
      have : p < l.length := by
        unfold turnedS at htd
        simp only [Bool.or_eq_true, Bool.and_eq_true] at htd
        rcases htd with e | e
        · exact isB_lt e
        · exact isB_lt e.1
      simp only [if_true]; omega
  refine Join0.intro (fun h' => Bx S n h' r bv l (if td then p + 1 else p) lang ∧ Fm h.size r h h' ∧ h'.size = h2.size ∧ h'[h.size]? = h2[h.size]?) ?_ ?_
  · rw [boolV_bool]
    refine bcase_of (fun ht => ?_) (fun ht => ?_)
    · rw [reads_nil, Tryz.fa177_1, addr_add, Nat.zero_add, c1.ld1, reads_add, wrap_n1 _ (by omega), reads_nil, Tryz.fa177_1, addr_add, Nat.zero_add]
      rw [ht] at hq0
      refine c1.goto (by simpa using hq0) fun h3 f3 s3 c3 o3 => ?_
      rw [if_pos ht]
      exact ⟨c3, (Fm.al a1 (Nat.le_refl _)).trans (f3.less (by omega)), s3, o3 _ (by omega)⟩
    · rw [if_neg (by rw [ht]; simp)]
      exact ⟨c1, Fm.al a1 (Nat.le_refl _), rfl, rfl⟩
  rintro h3 ⟨c3, f3, s3, r3⟩
  unfold bracketS at hk
  rw [htd] at hk
  generalize hfin : readL lang l (l.length + 1) true W4.zero (if td then p + 1 else p) = F at hk
  generalize (if td then p + 1 else p) = q0 at *
  refine alloc_rule Tryz.zero33 fun h4 a4 => ?_
  have s4 := a4.size
  have c4 := c3.al a4
  have f4 : Fm h.size r h h4 := f3.trans (Fm.al a4 (by omega))
  have rt4 : h4[h.size]? = some (.cells (Value.agg #[.int .u64 0, .int .u64 0, .int .u64 0, .int .u64 0]).cells 33 (0, 0)) := (a4.old _ (by omega)).trans (r3.trans rt1)
  -- the answer goes into its place
  have fin : ∀ {h8 : Heap} {t : W4} {e : Value}, (∃ cs, h8[h.size]? = some (.cells cs 33 (0, 0)) ∧ cs.size = 4) → (∀ h9, Upd h8 h9 h.size (.cells t.vals.toArray 33 (0, 0)) → R (.tuple #[.agg t.vals.toArray, e]) h9) →
      pStore Tryz.prog 33 (.pointer (some ⟨h.size, 0, none⟩)) (.agg t.vals.toArray) h8 fun h9 => pLoad Tryz.prog 33 (.pointer (some ⟨h.size, 0, none⟩)) h9 fun r7 => R (.tuple #[r7, e]) h9 := by
    intro h8 t e ⟨cs, r8, z8⟩ hq
    refine putSet r8 z8 fun h9 u9 => ?_
    exact getSet u9.same (hq h9 u9)
  refine Loop1.fuel (fun k a h' => ∃ (first : Bool) (s : W4) (q : Nat), a = .bool first ∧ Bx S n h' r bv l q lang ∧ s.ok ∧ Fm h.size r h h' ∧ h4.size ≤ h'.size ∧ At h' h3.size s ∧ h'[h.size]? = h4[h.size]? ∧ readL lang l k first s q = F ∧ l.length < k + q)
    (n := l.length + 1) ⟨true, W4.zero, q0, rfl, c4, W4.zero_ok, f4, Nat.le_refl _, a4.at_, rfl, hfin, by omega⟩ fun k a h5 hi => ?_
  obtain ⟨first, s, q, rfl, c5, os, f5, s5, as5, r5, hF, hfu⟩ := hi
  have hq := c5.le
  have hr5 := at_lt c5.rd
  obtain ⟨k, rfl⟩ : ∃ k', k = k' + 1 := ⟨k - 1, by omega⟩
  unfold readL at hF
  rw [reads_nil, Tryz.fa177_1, addr_add, Nat.zero_add, c5.ld1, reads_nil, Tryz.fa177_0, addr_add, c5.ld0, reads_blen c5.by_ Tryz.underlying29, reads_ge, dec_nn_le, boolV_bool]
  refine bcase_of (fun hc => ?_) (fun hc => ?_)
  · have hc := of_decide_eq_true hc
    rw [if_pos hc] at hF
    subst hF
    refine ⟨fun h' => h'[r]? = some (.cells #[bv, .int .i64 q, .int .i64 lang] 177 (0, 0)) ∧ At h' h3.size s ∧ IsBytes h' bv l, ⟨c5.rd, as5, c5.by_⟩, ?_⟩
    refine getSetS (fun h' hh => hh.2.1) ?_
    refine readsS_lift (fun h k => reads_nil) ?_
    refine readsS_lift (fun h k => Tryz.fa177_0) ?_
    rw [addr_add]
    refine pLoadS_one Tryz.agg29 (v := bv) (fun h' hh => by rw [hcell_of hh.1]; rfl) ?_
    refine readsS_of (v := .int .i64 l.length) (fun w hw => ?_) ?_
    · have := reads_blen (t := 29) (r := 3) hw.2.2 Tryz.underlying29 (k := fun v => v = .int .i64 l.length)
      obtain ⟨v, hv, rfl⟩ := (cast this.symm rfl : Reads Tryz.prog (builtinS .len #[29] 3 #[bv]) w.heap fun v => v = .int .i64 l.length)
      exact hv w rfl
    refine ⟨failB_spec (code := 8) c5 (by omega) (by omega) fun h8 e f8 he => ?_, trivial⟩
    have s8 := f8.size
    refine ⟨⟨(f8.same _ (by omega) (by omega)).trans c5.rd, (f8.same _ (by omega) (by omega)).trans as5, (c5.still f8).by_⟩, ?_, trivial⟩
    refine pStore_mono (fun h' x => ⟨trivial, x⟩) ?_
    refine fin ⟨_, (f8.same _ (by omega) (by omega)).trans (r5.trans rt4), rfl⟩ fun h9 u9 => ?_
    refine hk h9 s _ (f5.trans ((Fm.lift f8 (by omega) (by omega)).trans (Fm.upd u9 (.inl (by omega))))) ?_
    exact (he.fm fun k k1 k2 => u9.other _ (by omega)).less (by omega)
  have hc := of_decide_eq_false hc
  have hlt : q < l.length := by omega
  rw [if_neg hc] at hF
  refine Join0.intro (fun h' => h' = h5 ∧ (!first && isB l q 93) = false) ?_ ?_
  · rw [reads_not, boolV_bool]
    refine bcase_of (fun hnf => ?_) (fun hnf => ⟨rfl, by rw [hnf]; rfl⟩)
    refine isB_spec (k := 0) (x := 93) c5 (by omega) ?_
    rw [Nat.add_zero, boolV_bool]
    refine bcase_of (fun h93 => ?_) (fun h93 => ⟨rfl, by rw [hnf, h93]; rfl⟩)
    rw [if_pos (by rw [hnf, h93]; rfl)] at hF
    subst hF
    rw [reads_nil, Tryz.fa177_1, addr_add, Nat.zero_add, c5.ld1, reads_add, wrap_n1 _ (by omega), reads_nil, Tryz.fa177_1, addr_add, Nat.zero_add]
    refine c5.goto (by omega) fun h6 f6 s6 c6 o6 => ?_
    have as6 : At h6 h3.size s := (o6 _ (by omega)).trans as5
    have rt6 := (o6 h.size (by omega)).trans (r5.trans rt4)
    have f06 : Fm h.size r h h6 := f5.trans (f6.less (by omega))
    rw [boolV_bool]
    refine bcase_of (fun ht => ?_) (fun ht => ?_)
    · rw [ht] at hk
      simp only [if_true] at hk
      refine getSet as6 ?_
      refine not_spec os fun h7 f7 => ?_
      have s7 := f7.size
      refine putSet ((f7.same _ (by omega) (by omega)).trans as6) rfl fun h8 u8 => ?_
      have s8 := u8.size
      refine getSet u8.same ?_
      refine fin ⟨_, (u8.other _ (by omega)).trans ((f7.same _ (by omega) (by omega)).trans rt6), rfl⟩ fun h9 u9 => ?_
      exact hk h9 (f06.trans ((Fm.lift f7 (by omega) (by omega)).trans ((Fm.upd u8 (.inl (by omega))).trans (Fm.upd u9 (.inl (by omega)))))) (((c6.still f7).upd u8 (by omega) (by omega)).upd u9 (by omega) (by omega))
    · rw [ht] at hk
      simp only [Bool.false_eq_true, if_false] at hk
      refine getSet as6 ?_
      refine fin ⟨_, rt6, rfl⟩ fun h9 u9 => ?_
      exact hk h9 (f06.trans (Fm.upd u9 (.inl (by omega)))) (c6.upd u9 (by omega) (by omega))
  rintro h6 ⟨rfl, hn93⟩
  rw [if_neg (by rw [hn93]; simp)] at hF
  refine item_spec8 c5 hlt ?_
  cases hm : itemS lang l q with
  | out => rw [hm] at hF; subst hF; exact hk.elim
  | bad code pos =>
    rw [hm] at hF
    subst hF
    intro h7 one b s' f' e f7 he
    have s7 := f7.size
    rw [reads_ext0, reads_ext1]
    refine alloc_rule Tryz.zero187 fun h8 a8 => ?_
    have s8 := a8.size
    refine storeFull a8.at_ (xs := (itemV one b s' f').toArray) Tryz.size187 rfl (itemV_flat _ _ _ _) fun h9 u9 => ?_
    have s9 := u9.size
    obtain ⟨ea, eb, _, _, rfl, _⟩ := id he
    rw [Tryz.neq26_s, boolV_bool, bcase_true]
    have e69 : ∀ k, k < h6.size → k ≠ r → h9[k]? = h6[k]? := fun k hk hkr => by rw [u9.other _ (by omega), a8.old _ (by omega), f7.same _ hk hkr]
    refine getSet ((e69 _ (by omega) (by omega)).trans as5) ?_
    refine fin ⟨_, (e69 _ (by omega) (by omega)).trans (r5.trans rt4), rfl⟩ fun h10 u10 => ?_
    refine hk h10 s _ (f5.trans ((f7.less (by omega)).trans ((Fm.al a8 (by omega)).trans ((Fm.upd u9 (.inl (by omega))).trans (Fm.upd u10 (.inl (by omega))))))) ?_
    exact (he.fm fun k k1 k2 => by rw [u10.other _ (by omega), u9.other _ (by omega), a8.old _ (by omega)]).less (by omega)
  | ok x =>
    rw [hm] at hF
    simp only at hF
    have hxok := itemS_ok hm
    have hxle := itemS_le hlt hm
    obtain ⟨one, b, s', q1⟩ := x
    simp only at hxok hxle
    intro h7 f7 c7
    have s7 := f7.size
    simp only at c7
    rw [reads_ext0, reads_ext1]
    refine alloc_rule Tryz.zero187 fun h8 a8 => ?_
    have s8 := a8.size
    refine storeFull a8.at_ (xs := (itemV one b s' q).toArray) Tryz.size187 rfl (itemV_flat _ _ _ _) fun h9 u9 => ?_
    have s9 := u9.size
    have c9 := (c7.al a8).upd u9 (by omega) (by have := at_lt c7.rd; omega)
    have e69 : ∀ k, k < h6.size → k ≠ r → h9[k]? = h6[k]? := fun k hk hkr => by rw [u9.other _ (by omega), a8.old _ (by omega), f7.same _ hk hkr]
    have f9 : Fm h.size r h h9 := f5.trans ((f7.less (by omega)).trans ((Fm.al a8 (by omega)).trans (Fm.upd u9 (.inl (by omega)))))
    rw [Tryz.neq26_n, boolV_bool, bcase_false]
    refine load_all u9.same Tryz.agg187 ?_
    refine ranged_spec c9 ?_
    cases hg : rangedS lang l q (one, b, s', q1) with
    | out => rw [hg] at hF; subst hF; exact hk.elim
    | bad code pos =>
      rw [hg] at hF
      subst hF
      intro h10 s2 e f10 he
      have s10 := f10.size
      rw [reads_ext0, reads_ext1]
      refine alloc_rule Tryz.zero33 fun h11 a11 => ?_
      have s11 := a11.size
      refine putSet (s := s2) a11.at_ rfl fun h12 u12 => ?_
      have s12 := u12.size
      obtain ⟨ea, eb, _, _, rfl, _⟩ := id he
      rw [Tryz.neq26_s, boolV_bool, bcase_true]
      have e612 : ∀ k, k < h6.size → k ≠ r → h12[k]? = h6[k]? := fun k hk hkr => by rw [u12.other _ (by omega), a11.old _ (by omega), f10.same _ (by omega) hkr, e69 _ hk hkr]
      refine getSet ((e612 _ (by omega) (by omega)).trans as5) ?_
      refine fin ⟨_, (e612 _ (by omega) (by omega)).trans (r5.trans rt4), rfl⟩ fun h13 u13 => ?_
      refine hk h13 s _ (f9.trans ((f10.less (by omega)).trans ((Fm.al a11 (by omega)).trans ((Fm.upd u12 (.inl (by omega))).trans (Fm.upd u13 (.inl (by omega))))))) ?_
      exact (he.fm fun k k1 k2 => by rw [u13.other _ (by omega), u12.other _ (by omega), a11.old _ (by omega)]).less (by omega)
    | ok y =>
      rw [hg] at hF
      simp only at hF
      have hyok := rangedS_ok (x := (one, b, s', q1)) hxok hg
      have hyle := rangedS_le (x := (one, b, s', q1)) hxle.2 hg
      obtain ⟨t, q2⟩ := y
      simp only at hyok hyle hF
      intro h10 f10 c10
      have s10 := f10.size
      simp only at c10
      rw [reads_ext0, reads_ext1]
      refine alloc_rule Tryz.zero33 fun h11 a11 => ?_
      have s11 := a11.size
      refine putSet (s := t) a11.at_ rfl fun h12 u12 => ?_
      have s12 := u12.size
      have c12 := (c10.al a11).upd u12 (by omega) (by have := at_lt c10.rd; omega)
      have e612 : ∀ k, k < h6.size → k ≠ r → h12[k]? = h6[k]? := fun k hk hkr => by rw [u12.other _ (by omega), a11.old _ (by omega), f10.same _ (by omega) hkr, e69 _ hk hkr]
      rw [Tryz.neq26_n, boolV_bool, bcase_false]
      refine getSet ((e612 _ (by omega) (by omega)).trans as5) ?_
      refine getSet u12.same ?_
      refine unite (vs := [s, t]) rfl (by simp) (by simp) (by simp [os, hyok]) fun h13 f13 => ?_
      have s13 := f13.size
      refine putSet ((f13.same _ (by omega) (by omega)).trans ((e612 _ (by omega) (by omega)).trans as5)) rfl fun h14 u14 => ?_
      have s14 := u14.size
      refine ⟨k, by omega, false, unionM [s, t], q2, rfl, (c12.still f13).upd u14 (by omega) (by omega), unionM_ok (by simp [os, hyok]), ?_, by omega, u14.same, ?_, hF, by omega⟩
      · exact f9.trans ((f10.less (by omega)).trans ((Fm.al a11 (by omega)).trans ((Fm.upd u12 (.inl (by omega))).trans ((Fm.lift f13 (by omega) (by omega)).trans (Fm.upd u14 (.inl (by omega)))))))
      · rw [u14.other _ (by omega), f13.same _ (by omega) (by omega), e612 _ (by omega) (by omega)]
        exact r5
end Rt
end Go.Proofs
