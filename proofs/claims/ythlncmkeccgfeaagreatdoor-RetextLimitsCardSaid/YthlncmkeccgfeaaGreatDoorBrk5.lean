/- A part of the proofs over this seat: Brk5. -/
import Derived.Test.YthlncmkeccgfeaaGreatDoorBrk2
set_option linter.unusedVariables false
set_option linter.unusedSimpArgs false
set_option maxRecDepth 100000
namespace Go.Proofs
open Go.Vcg Go.Extern
namespace Rt
attribute [local congr] Reads.congr ReadsS.congr pLoad.congr pLoadS.congr pStore.congr Runs.congr CallsH.congr bcase.congr boolV.congr Stable.congr pAlloc.congr
variable {S : Glb} {n : Nat} {h : Heap} {r : Nat} {bv : Value} {l : List UInt8} {p lang : Nat} {R : Value → Heap → Prop} {E : List PanicEntry → Heap → Prop}

theorem rangedS_ok {x : ItemR} {frm : Nat} {y : W4 × Nat} (hx : x.2.2.1.ok) (h : rangedS lang l frm x = .ok y) : y.1.ok := by
  unfold rangedS at h
  split at h
  · cases h; exact hx
  · split at h
    · split at h
      · cases h
      · split at h
        · cases h
        · cases h; exact rangeW_ok _ _
    · cases h
    · cases h
theorem rangedS_le {x : ItemR} {frm : Nat} {y : W4 × Nat} (hx : x.2.2.2 ≤ l.length) (h : rangedS lang l frm x = .ok y) : x.2.2.2 ≤ y.2 ∧ y.2 ≤ l.length := by
  unfold rangedS at h
  split at h
  · cases h; exact ⟨Nat.le_refl _, hx⟩
  · rename_i hc
    split at h
    · rename_i z hz
      split at h
      · cases h
      · split at h
        · cases h
        · cases h
          simp only [Bool.or_eq_true, decide_eq_true_eq, not_or] at hc
          have := itemS_le (by omega) hz
          omega
    · cases h
    · cases h
theorem read_spec (c : Bx S n h r bv l p lang) (hk : OwesS S n h r bv l lang (bracketS lang l p) R) : CallsH Tryz.prog 129 #[ptr r] h R E := by
  have hr := at_lt c.rd
  have hl := c.len
  have hpl := c.le
  have hnl := c.nle
  refine C129 ?_
  unfold S129
  refine alloc_rule Tryz.zero33 fun h1 a1 => ?_
  have s1 := a1.size
  have c1 := c.al a1
  have rt1 : h1[h.size]? = some (.cells (Value.agg #[.int .u64 0, .int .u64 0, .int .u64 0, .int .u64 0]).cells 33 (0, 0)) := a1.at_
  refine Join1.intro (fun v h' => h' = h1 ∧ v = .bool (turnedS lang l p)) ?_ ?_
  · refine isB_spec (k := 0) (x := 94) c1 (by omega) ?_
    rw [Nat.add_zero, boolV_bool]
    refine bcase_of (fun h94 => ⟨rfl, rfl, rfl, rfl, rfl, rfl, by unfold turnedS; rw [h94]; rfl⟩) (fun h94 => ?_)
    refine isB_spec (k := 0) (x := 33) c1 (by omega) ?_
    rw [Nat.add_zero, boolV_bool]
    refine bcase_of (fun h33 => ?_) (fun h33 => ⟨rfl, by unfold turnedS; rw [h94, h33]; rfl⟩)
    rw [reads_nil, Tryz.fa177_2, addr_add, Nat.zero_add, c1.ld2, reads_eq, show (2 : Int) = ((2 : Nat) : Int) from rfl, dec_nn_eq]
    exact ⟨rfl, by unfold turnedS; rw [h94, h33]; rfl⟩
  rintro v h2 ⟨rfl, rfl⟩
  generalize htd : turnedS lang l p = td at *
  have hq0 : (if td then p + 1 else p) ≤ l.length := by
    cases td with
    | false => exact hpl
    | true =>
      have : p < l.length := by
        unfold turnedS at htd
        simp only [Bool.or_eq_true, Bool.and_eq_true] at htd
        rcases htd with e | e
        · exact isB_lt e
        · exact isB_lt e.1
      simp only [if_true]; omega
  refine Join0.intro (fun h' => Bx S n h' r bv l (if td then p + 1 else p) lang ∧ Fm h.size r h h' ∧ h'.size = h2.size ∧ h'[h.size]? = h2[h.size]?) ?_ ?_
  · rw [boolV_bool]
    refine bcase_of (fun ht => ?_) (fun ht => ?_)
    · rw [reads_nil, Tryz.fa177_1, addr_add, Nat.zero_add, c1.ld1, reads_add, wrap_n1 _ (by omega), reads_nil, Tryz.fa177_1, addr_add, Nat.zero_add]
      rw [ht] at hq0
      refine c1.goto (by simpa using hq0) fun h3 f3 s3 c3 o3 => ?_
      rw [if_pos ht]
      exact ⟨c3, (Fm.al a1 (Nat.le_refl _)).trans (f3.less (by omega)), s3, o3 _ (by omega)⟩
    · rw [if_neg (by rw [ht]; simp)]
      exact ⟨c1, Fm.al a1 (Nat.le_refl _), rfl, rfl⟩
  rintro h3 ⟨c3, f3, s3, r3⟩
  unfold bracketS at hk
  rw [htd] at hk
  generalize hfin : readL lang l (l.length + 1) true W4.zero (if td then p + 1 else p) = F at hk
  generalize (if td then p + 1 else p) = q0 at *
  refine alloc_rule Tryz.zero33 fun h4 a4 => ?_
  have s4 := a4.size
  have c4 := c3.al a4
  have f4 : Fm h.size r h h4 := f3.trans (Fm.al a4 (by omega))
  have rt4 : h4[h.size]? = some (.cells (Value.agg #[.int .u64 0, .int .u64 0, .int .u64 0, .int .u64 0]).cells 33 (0, 0)) := (a4.old _ (by omega)).trans (r3.trans rt1)
  -- the answer goes into its place
  have fin : ∀ {h8 : Heap} {t : W4} {e : Value}, (∃ cs, h8[h.size]? = some (.cells cs 33 (0, 0)) ∧ cs.size = 4) → (∀ h9, Upd h8 h9 h.size (.cells t.vals.toArray 33 (0, 0)) → R (.tuple #[.agg t.vals.toArray, e]) h9) →
      pStore Tryz.prog 33 (.pointer (some ⟨h.size, 0, none⟩)) (.agg t.vals.toArray) h8 fun h9 => pLoad Tryz.prog 33 (.pointer (some ⟨h.size, 0, none⟩)) h9 fun r7 => R (.tuple #[r7, e]) h9 := by
    intro h8 t e ⟨cs, r8, z8⟩ hq
    refine putSet r8 z8 fun h9 u9 => ?_
    exact getSet u9.same (hq h9 u9)
  refine Loop1.fuel (fun k a h' => ∃ (first : Bool) (s : W4) (q : Nat), a = .bool first ∧ Bx S n h' r bv l q lang ∧ s.ok ∧ Fm h.size r h h' ∧ h4.size ≤ h'.size ∧ At h' h3.size s ∧ h'[h.size]? = h4[h.size]? ∧ readL lang l k first s q = F ∧ l.length < k + q)
    (n := l.length + 1) ⟨true, W4.zero, q0, rfl, c4, W4.zero_ok, f4, Nat.le_refl _, a4.at_, rfl, hfin, by omega⟩ fun k a h5 hi => ?_
  obtain ⟨first, s, q, rfl, c5, os, f5, s5, as5, r5, hF, hfu⟩ := hi
  have hq := c5.le
  have hr5 := at_lt c5.rd
  obtain ⟨k, rfl⟩ : ∃ k', k = k' + 1 := ⟨k - 1, by omega⟩
  unfold readL at hF
  rw [reads_nil, Tryz.fa177_1, addr_add, Nat.zero_add, c5.ld1, reads_nil, Tryz.fa177_0, addr_add, c5.ld0, reads_blen c5.by_ Tryz.underlying29, reads_ge, dec_nn_le, boolV_bool]
  refine bcase_of (fun hc => ?_) (fun hc => ?_)
  · have hc := of_decide_eq_true hc
    rw [if_pos hc] at hF
    subst hF
    refine ⟨fun h' => h'[r]? = some (.cells #[bv, .int .i64 q, .int .i64 lang] 177 (0, 0)) ∧ At h' h3.size s ∧ IsBytes h' bv l, ⟨c5.rd, as5, c5.by_⟩, ?_⟩
    refine getSetS (fun h' hh => hh.2.1) ?_
    refine readsS_lift (fun h k => reads_nil) ?_
    refine readsS_lift (fun h k => Tryz.fa177_0) ?_
    rw [addr_add]
    refine pLoadS_one Tryz.agg29 (v := bv) (fun h' hh => by rw [hcell_of hh.1]; rfl) ?_
    refine readsS_of (v := .int .i64 l.length) (fun w hw => ?_) ?_
    · have := reads_blen (t := 29) (r := 3) hw.2.2 Tryz.underlying29 (k := fun v => v = .int .i64 l.length)
      obtain ⟨v, hv, rfl⟩ := (cast this.symm rfl : Reads Tryz.prog (builtinS .len #[29] 3 #[bv]) w.heap fun v => v = .int .i64 l.length)
      exact hv w rfl
    refine ⟨failB_spec (code := 8) c5 (by omega) (by omega) fun h8 e f8 he => ?_, trivial⟩
    have s8 := f8.size
    refine ⟨⟨(f8.same _ (by omega) (by omega)).trans c5.rd, (f8.same _ (by omega) (by omega)).trans as5, (c5.still f8).by_⟩, ?_, trivial⟩
    refine pStore_mono (fun h' x => ⟨trivial, x⟩) ?_
    refine fin ⟨_, (f8.same _ (by omega) (by omega)).trans (r5.trans rt4), rfl⟩ fun h9 u9 => ?_
    refine hk h9 s _ (f5.trans ((Fm.lift f8 (by omega) (by omega)).trans (Fm.upd u9 (.inl (by omega))))) ?_
    exact (he.fm fun k k1 k2 => u9.other _ (by omega)).less (by omega)
  have hc := of_decide_eq_false hc
  have hlt : q < l.length := by omega
  rw [if_neg hc] at hF
  refine Join0.intro (fun h' => h' = h5 ∧ (!first && isB l q 93) = false) ?_ ?_
  · rw [reads_not, boolV_bool]
    refine bcase_of (fun hnf => ?_) (fun hnf => ⟨rfl, by rw [hnf]; rfl⟩)
    refine isB_spec (k := 0) (x := 93) c5 (by omega) ?_
    rw [Nat.add_zero, boolV_bool]
    refine bcase_of (fun h93 => ?_) (fun h93 => ⟨rfl, by rw [hnf, h93]; rfl⟩)
    rw [if_pos (by rw [hnf, h93]; rfl)] at hF
    subst hF
    rw [reads_nil, Tryz.fa177_1, addr_add, Nat.zero_add, c5.ld1, reads_add, wrap_n1 _ (by omega), reads_nil, Tryz.fa177_1, addr_add, Nat.zero_add]
    refine c5.goto (by omega) fun h6 f6 s6 c6 o6 => ?_
    have as6 : At h6 h3.size s := (o6 _ (by omega)).trans as5
    have rt6 := (o6 h.size (by omega)).trans (r5.trans rt4)
    have f06 : Fm h.size r h h6 := f5.trans (f6.less (by omega))
    rw [boolV_bool]
    refine bcase_of (fun ht => ?_) (fun ht => ?_)
    · rw [ht] at hk
      simp only [if_true] at hk
      refine getSet as6 ?_
      refine not_spec os fun h7 f7 => ?_
      have s7 := f7.size
      refine putSet ((f7.same _ (by omega) (by omega)).trans as6) rfl fun h8 u8 => ?_
      have s8 := u8.size
      refine getSet u8.same ?_
      refine fin ⟨_, (u8.other _ (by omega)).trans ((f7.same _ (by omega) (by omega)).trans rt6), rfl⟩ fun h9 u9 => ?_
      exact hk h9 (f06.trans ((Fm.lift f7 (by omega) (by omega)).trans ((Fm.upd u8 (.inl (by omega))).trans (Fm.upd u9 (.inl (by omega)))))) (((c6.still f7).upd u8 (by omega) (by omega)).upd u9 (by omega) (by omega))
    · rw [ht] at hk
      simp only [Bool.false_eq_true, if_false] at hk
      refine getSet as6 ?_
      refine fin ⟨_, rt6, rfl⟩ fun h9 u9 => ?_
      exact hk h9 (f06.trans (Fm.upd u9 (.inl (by omega)))) (c6.upd u9 (by omega) (by omega))
  rintro h6 ⟨rfl, hn93⟩
  rw [if_neg (by rw [hn93]; simp)] at hF
  refine item_spec8 c5 hlt ?_
  cases hm : itemS lang l q with
  | out => rw [hm] at hF; subst hF; exact hk.elim
  | bad code pos =>
    rw [hm] at hF
    subst hF
    intro h7 one b s' f' e f7 he
    have s7 := f7.size
    rw [reads_ext0, reads_ext1]
    refine alloc_rule Tryz.zero187 fun h8 a8 => ?_
    have s8 := a8.size
    refine storeFull a8.at_ (xs := (itemV one b s' f').toArray) Tryz.size187 rfl (itemV_flat _ _ _ _) fun h9 u9 => ?_
    have s9 := u9.size
    obtain ⟨ea, eb, _, _, rfl, _⟩ := id he
    rw [Tryz.neq26_s, boolV_bool, bcase_true]
    have e69 : ∀ k, k < h6.size → k ≠ r → h9[k]? = h6[k]? := fun k hk hkr => by rw [u9.other _ (by omega), a8.old _ (by omega), f7.same _ hk hkr]
    refine getSet ((e69 _ (by omega) (by omega)).trans as5) ?_
    refine fin ⟨_, (e69 _ (by omega) (by omega)).trans (r5.trans rt4), rfl⟩ fun h10 u10 => ?_
    refine hk h10 s _ (f5.trans ((f7.less (by omega)).trans ((Fm.al a8 (by omega)).trans ((Fm.upd u9 (.inl (by omega))).trans (Fm.upd u10 (.inl (by omega))))))) ?_
    exact (he.fm fun k k1 k2 => by rw [u10.other _ (by omega), u9.other _ (by omega), a8.old _ (by omega)]).less (by omega)
  | ok x =>
    rw [hm] at hF
    simp only at hF
    have hxok := itemS_ok hm
    have hxle := itemS_le hlt hm
    obtain ⟨one, b, s', q1⟩ := x
    simp only at hxok hxle
    intro h7 f7 c7
    have s7 := f7.size
    simp only at c7
    rw [reads_ext0, reads_ext1]
    refine alloc_rule Tryz.zero187 fun h8 a8 => ?_
    have s8 := a8.size
    refine storeFull a8.at_ (xs := (itemV one b s' q).toArray) Tryz.size187 rfl (itemV_flat _ _ _ _) fun h9 u9 => ?_
    have s9 := u9.size
    have c9 := (c7.al a8).upd u9 (by omega) (by have := at_lt c7.rd; omega)
    have e69 : ∀ k, k < h6.size → k ≠ r → h9[k]? = h6[k]? := fun k hk hkr => by rw [u9.other _ (by omega), a8.old _ (by omega), f7.same _ hk hkr]
    have f9 : Fm h.size r h h9 := f5.trans ((f7.less (by omega)).trans ((Fm.al a8 (by omega)).trans (Fm.upd u9 (.inl (by omega)))))
    rw [Tryz.neq26_n, boolV_bool, bcase_false]
    refine load_all u9.same Tryz.agg187 ?_
    refine ranged_spec c9 ?_
    cases hg : rangedS lang l q (one, b, s', q1) with
    | out => rw [hg] at hF; subst hF; exact hk.elim
    | bad code pos =>
      rw [hg] at hF
      subst hF
      intro h10 s2 e f10 he
      have s10 := f10.size
      rw [reads_ext0, reads_ext1]
      refine alloc_rule Tryz.zero33 fun h11 a11 => ?_
      have s11 := a11.size
      refine putSet (s := s2) a11.at_ rfl fun h12 u12 => ?_
      have s12 := u12.size
      obtain ⟨ea, eb, _, _, rfl, _⟩ := id he
      rw [Tryz.neq26_s, boolV_bool, bcase_true]
      have e612 : ∀ k, k < h6.size → k ≠ r → h12[k]? = h6[k]? := fun k hk hkr => by rw [u12.other _ (by omega), a11.old _ (by omega), f10.same _ (by omega) hkr, e69 _ hk hkr]
      refine getSet ((e612 _ (by omega) (by omega)).trans as5) ?_
      refine fin ⟨_, (e612 _ (by omega) (by omega)).trans (r5.trans rt4), rfl⟩ fun h13 u13 => ?_
      refine hk h13 s _ (f9.trans ((f10.less (by omega)).trans ((Fm.al a11 (by omega)).trans ((Fm.upd u12 (.inl (by omega))).trans (Fm.upd u13 (.inl (by omega))))))) ?_
      exact (he.fm fun k k1 k2 => by rw [u13.other _ (by omega), u12.other _ (by omega), a11.old _ (by omega)]).less (by omega)
    | ok y =>
      rw [hg] at hF
      simp only at hF
      have hyok := rangedS_ok (x := (one, b, s', q1)) hxok hg
      have hyle := rangedS_le (x := (one, b, s', q1)) hxle.2 hg
      obtain ⟨t, q2⟩ := y
      simp only at hyok hyle hF
      intro h10 f10 c10
      have s10 := f10.size
      simp only at c10
      rw [reads_ext0, reads_ext1]
      refine alloc_rule Tryz.zero33 fun h11 a11 => ?_
      have s11 := a11.size
      refine putSet (s := t) a11.at_ rfl fun h12 u12 => ?_
      have s12 := u12.size
      have c12 := (c10.al a11).upd u12 (by omega) (by have := at_lt c10.rd; omega)
      have e612 : ∀ k, k < h6.size → k ≠ r → h12[k]? = h6[k]? := fun k hk hkr => by rw [u12.other _ (by omega), a11.old _ (by omega), f10.same _ (by omega) hkr, e69 _ hk hkr]
      rw [Tryz.neq26_n, boolV_bool, bcase_false]
      refine getSet ((e612 _ (by omega) (by omega)).trans as5) ?_
      refine getSet u12.same ?_
      refine unite (vs := [s, t]) rfl (by simp) (by simp) (by simp [os, hyok]) fun h13 f13 => ?_
      have s13 := f13.size
      refine putSet ((f13.same _ (by omega) (by omega)).trans ((e612 _ (by omega) (by omega)).trans as5)) rfl fun h14 u14 => ?_
      have s14 := u14.size
      refine ⟨k, by omega, false, unionM [s, t], q2, rfl, (c12.still f13).upd u14 (by omega) (by omega), unionM_ok (by simp [os, hyok]), ?_, by omega, u14.same, ?_, hF, by omega⟩
      · exact f9.trans ((f10.less (by omega)).trans ((Fm.al a11 (by omega)).trans ((Fm.upd u12 (.inl (by omega))).trans ((Fm.lift f13 (by omega) (by omega)).trans (Fm.upd u14 (.inl (by omega)))))))
      · rw [u14.other _ (by omega), f13.same _ (by omega) (by omega), e612 _ (by omega) (by omega)]
        exact r5
end Rt
end Go.Proofs

set_option maxRecDepth 100000
namespace Go.Proofs
open Go.Vcg Go.Extern
namespace Rt
attribute [local congr] Reads.congr ReadsS.congr pLoad.congr pLoadS.congr pStore.congr Runs.congr CallsH.congr bcase.congr boolV.congr Stable.congr pAlloc.congr
variable {S : Glb} {n : Nat} {h : Heap} {r : Nat} {bv : Value} {l : List UInt8} {p lang : Nat} {R : Value → Heap → Prop} {E : List PanicEntry → Heap → Prop}

theorem Fm.out {n r r' : Nat} {h h' : Heap} (f : Fm n r h h') (hr : n ≤ r) : Fm n r' h h' := ⟨f.size, fun k hk _ => f.same k hk (by omega)⟩
def OwesB (S : Glb) (h : Heap) (lang : Nat) (m : Res (W4 × Nat)) (R : Value → Heap → Prop) : Prop :=
  match m with
  | .out => False
  | .bad code pos => ∀ h' e, Fm h.size h.size h h' → IsErr S h' h.size lang code pos e → R (.tuple #[.agg W4.zero.vals.toArray, .int .i64 0, e]) h'
  | .ok x => ∀ h', Fm h.size h.size h h' → R (.tuple #[.agg x.1.vals.toArray, .int .i64 x.2, .nilIface]) h'
theorem set_bracket_spec (gl : Gl S h) (hn : S.N ≤ h.size) (hb : IsBytes h bv l) (hbl : ∀ b o m c, bv = .slice (some ⟨b, o, none⟩) m c → b < h.size) (hp : p ≤ l.length) (hlen : l.length ≤ 65536) (hl : lang = 2 ∨ lang = 3 ∨ lang = 4)
    (hk : OwesB S h lang (bracketS lang l p) R) : CallsH Tryz.prog 119 #[bv, .int .i64 p, .int .i64 lang] h R E := by
  obtain ⟨p0, n0, c0, hbv⟩ : ∃ p0 n0 c0, bv = .slice p0 n0 c0 := by
    rcases hb with ⟨e, _⟩ | ⟨b, o, c, e, _⟩
    · exact ⟨_, _, _, e⟩
    · exact ⟨_, _, _, e⟩
  refine C119 ?_
  unfold S119
  refine alloc_rule Tryz.zero33 fun h1 a1 => ?_
  have s1 := a1.size
  rw [hbv, Tryz.bd177_0_1_2, ← hbv]
  refine new_rule fun h2 a2 => ?_
  have s2 := a2.size
  have rt2 : h2[h.size]? = some (.cells (Value.agg #[.int .u64 0, .int .u64 0, .int .u64 0, .int .u64 0]).cells 33 (0, 0)) := (a2.old _ (by omega)).trans a1.at_
  have f2 : Fm h.size h.size h h2 := (Fm.al a1 (Nat.le_refl _)).trans (Fm.al a2 (by omega))
  have c2 : Bx S h.size h2 h1.size bv l p lang := ⟨a2.at_, hb.frame fun b o k hv => f2.same b (hbl b o _ k hv) (by have := hbl b o _ k hv; omega), fun b o m c hv => ⟨by have := hbl b o m c hv; omega, hbl b o m c hv⟩, hp, hlen, gl.fm f2 hn hn, by omega, hn, by omega⟩
  refine Join1.intro (fun v h' => h' = h2 ∧ v = .bool false) ?_ ?_
  · rw [reads_lt, boolV_bool, show decide ((p : Int) < 0) = false from by simp, bcase_false, reads_blen c2.by_ Tryz.underlying29, reads_gt, dec_nn_lt, boolV_bool, show decide (l.length < p) = false from by simp; omega, bcase_false]
    rcases hl with rfl | rfl | rfl
    · rw [reads_ne, boolV_bool, show (decide (((2 : Nat) : Int) = 2)) = true from rfl]
      exact ⟨rfl, rfl⟩
    · rw [reads_ne, boolV_bool, show (decide (((3 : Nat) : Int) = 2)) = false from rfl, Bool.not_false, bcase_true, reads_ne, boolV_bool, show (decide (((3 : Nat) : Int) = 3)) = true from rfl]
      exact ⟨rfl, rfl⟩
    · rw [reads_ne, boolV_bool, show (decide (((4 : Nat) : Int) = 2)) = false from rfl, Bool.not_false, bcase_true, reads_ne, boolV_bool, show (decide (((4 : Nat) : Int) = 3)) = false from rfl, Bool.not_false, bcase_true, reads_ne]
      exact ⟨rfl, rfl⟩
  rintro v h3 ⟨rfl, rfl⟩
  rw [boolV_bool, bcase_false]
  refine read_spec c2 ?_
  have fin : ∀ {h8 : Heap} {t : W4} {x e : Value}, (∃ cs, h8[h.size]? = some (.cells cs 33 (0, 0)) ∧ cs.size = 4) → (∀ h9, Upd h8 h9 h.size (.cells t.vals.toArray 33 (0, 0)) → R (.tuple #[.agg t.vals.toArray, x, e]) h9) →
      pStore Tryz.prog 33 (.pointer (some ⟨h.size, 0, none⟩)) (.agg t.vals.toArray) h8 fun h9 => pLoad Tryz.prog 33 (.pointer (some ⟨h.size, 0, none⟩)) h9 fun r7 => R (.tuple #[r7, x, e]) h9 := by
    intro h8 t x e ⟨cs, r8, z8⟩ hq
    refine putSet r8 z8 fun h9 u9 => ?_
    exact getSet u9.same (hq h9 u9)
  cases hm : bracketS lang l p with
  | out => rw [hm] at hk; exact hk.elim
  | bad code pos =>
    rw [hm] at hk
    intro h4 s e f4 he
    have s4 := f4.size
    rw [reads_ext0, reads_ext1]
    refine alloc_rule Tryz.zero33 fun h5 a5 => ?_
    have s5 := a5.size
    refine putSet (s := s) a5.at_ rfl fun h6 u6 => ?_
    have s6 := u6.size
    obtain ⟨ea, eb, _, _, rfl, _⟩ := id he
    rw [Tryz.neq26_s, boolV_bool, bcase_true, Tryz.bd33]
    refine fin (t := W4.zero) ⟨_, (u6.other _ (by omega)).trans ((a5.old _ (by omega)).trans ((f4.same _ (by omega) (by omega)).trans rt2)), rfl⟩ fun h7 u7 => ?_
    refine hk h7 _ (f2.trans ((Fm.out (f4.less (by omega)) (by omega)).trans ((Fm.al a5 (by omega)).trans ((Fm.upd u6 (.inl (by omega))).trans (Fm.upd u7 (.inl (by omega))))))) ?_
    exact (he.fm fun k k1 k2 => by rw [u7.other _ (by omega), u6.other _ (by omega), a5.old _ (by omega)]).less (by omega)
  | ok x =>
    rw [hm] at hk
    obtain ⟨t, q⟩ := x
    intro h4 f4 c4
    have s4 := f4.size
    simp only at c4
    rw [reads_ext0, reads_ext1]
    refine alloc_rule Tryz.zero33 fun h5 a5 => ?_
    have s5 := a5.size
    refine putSet (s := t) a5.at_ rfl fun h6 u6 => ?_
    have s6 := u6.size
    have c6 := (c4.al a5).upd u6 (by omega) (by omega)
    rw [Tryz.neq26_n, boolV_bool, bcase_false]
    refine ⟨fun h' => At h' h4.size t ∧ h'[h1.size]? = some (.cells #[bv, .int .i64 q, .int .i64 lang] 177 (0, 0)), ⟨u6.same, c6.rd⟩, ?_⟩
    refine getSetS (fun h' hh => hh.1) ?_
    refine readsS_lift (fun h k => reads_nil) ?_
    refine readsS_lift (fun h k => Tryz.fa177_1) ?_
    rw [addr_add, Nat.zero_add]
    refine pLoadS_one Tryz.agg3 (v := .int .i64 q) (fun h' hh => by rw [hcell_of hh.2]; rfl) ?_
    refine ⟨?_, trivial⟩
    have r6 : h6[h.size]? = some (.cells (Value.agg #[.int .u64 0, .int .u64 0, .int .u64 0, .int .u64 0]).cells 33 (0, 0)) := (u6.other _ (by omega)).trans ((a5.old _ (by omega)).trans ((f4.same _ (by omega) (by omega)).trans rt2))
    refine putSet r6 rfl fun h7 u7 => ?_
    refine ⟨⟨(u7.other _ (by omega)).trans u6.same, (u7.other _ (by omega)).trans c6.rd⟩, ?_⟩
    refine getSet u7.same ?_
    exact hk h7 (f2.trans ((Fm.out (f4.less (by omega)) (by omega)).trans ((Fm.al a5 (by omega)).trans ((Fm.upd u6 (.inl (by omega))).trans (Fm.upd u7 (.inl (by omega)))))))
end Rt
end Go.Proofs

set_option maxRecDepth 100000
namespace Go.Proofs
open Go.Vcg Go.Extern
namespace Rt
attribute [local congr] Reads.congr ReadsS.congr pLoad.congr pLoadS.congr pStore.congr Runs.congr CallsH.congr bcase.congr boolV.congr Stable.congr pAlloc.congr
variable {S : Glb} {n : Nat} {h : Heap} {r : Nat} {bv : Value} {l : List UInt8} {p lang : Nat} {ext : Bool} {op gr : Nat} {R : Value → Heap → Prop} {E : List PanicEntry → Heap → Prop}

theorem itemS_bad {code pos : Nat} (hp : p < l.length) (h : itemS lang l p = .bad code pos) : code = 8 ∧ pos ≤ l.length := by
  unfold itemS at h
  split at h
  · cases h; exact ⟨rfl, by omega⟩
  split at h
  · split at h
    · split at h
      · cases h
      · cases h; exact ⟨rfl, by omega⟩
    · cases h; exact ⟨rfl, by omega⟩
  split at h
  · split at h
    · cases h
    · cases h; exact ⟨rfl, by omega⟩
  · cases h
theorem itemS_out (h : itemS lang l p = .out) : False := by
  unfold itemS at h
  split at h
  · cases h
  split at h
  · split at h
    · split at h <;> cases h
    · cases h
  split at h
  · split at h <;> cases h
  · cases h
theorem rangedS_bad {x : ItemR} {frm code pos : Nat} (hf : frm ≤ l.length) (h : rangedS lang l frm x = .bad code pos) : (code = 8 ∨ code = 7) ∧ pos ≤ l.length := by
  unfold rangedS at h
  split at h
  · cases h
  · rename_i hc
    simp only [Bool.or_eq_true, decide_eq_true_eq, not_or] at hc
    split at h
    · split at h
      · cases h; exact ⟨.inl rfl, by omega⟩
      · split at h
        · cases h; exact ⟨.inr rfl, hf⟩
        · cases h
    · rename_i a b hz
      cases h
      have := itemS_bad (by omega) hz
      exact ⟨.inl this.1, this.2⟩
    · cases h
theorem rangedS_out {x : ItemR} {frm : Nat} (h : rangedS lang l frm x = .out) : False := by
  unfold rangedS at h
  split at h
  · cases h
  · split at h
    · split at h
      · cases h
      · split at h <;> cases h
    · cases h
    · rename_i hz
      exact itemS_out hz
theorem readL_end : ∀ (k : Nat) {first : Bool} {s : W4} {p : Nat}, p ≤ l.length → s.ok → l.length < k + p → match readL lang l k first s p with
    | .out => False
    | .bad code pos => (code = 8 ∨ code = 7) ∧ pos ≤ l.length
    | .ok y => y.1.ok ∧ p < y.2 ∧ y.2 ≤ l.length
  | 0, first, s, p, hp, hs, hk => by omega
  | k + 1, first, s, p, hp, hs, hk => by
    unfold readL
    by_cases h1 : l.length ≤ p
    · rw [if_pos h1]
      exact ⟨.inl rfl, Nat.le_refl _⟩
    rw [if_neg h1]
    by_cases h2 : (!first && isB l p 93) = true
    · rw [if_pos h2]
      exact ⟨hs, by simp, by simp; omega⟩
    rw [if_neg h2]
    cases hx : itemS lang l p with
    | out => exact itemS_out hx
    | bad a b =>
      have := itemS_bad (by omega) hx
      exact ⟨.inl this.1, this.2⟩
    | ok x =>
      have hle := itemS_le (by omega) hx
      have hok := itemS_ok hx
      simp only
      cases hy : rangedS lang l p x with
      | out => exact rangedS_out hy
      | bad a b => exact rangedS_bad (by omega) hy
      | ok y =>
        obtain ⟨t, p'⟩ := y
        have h3 := rangedS_ok hok hy
        have h4 := rangedS_le hle.2 hy
        simp only at h3 h4
        have := readL_end k (first := false) (s := unionM [s, t]) (p := p') (by omega) (unionM_ok (by simp [hs, h3])) (by omega)
        simp only
        split <;> rename_i e <;> rw [e] at this
        · exact this
        · exact this
        · exact ⟨this.1, by omega, this.2.2⟩
theorem bracketS_end (hp : p ≤ l.length) : match bracketS lang l p with
    | .out => False
    | .bad code pos => (code = 8 ∨ code = 7) ∧ pos ≤ l.length
    | .ok y => y.1.ok ∧ p < y.2 ∧ y.2 ≤ l.length := by
  have hq : (if turnedS lang l p then p + 1 else p) ≤ l.length ∧ p ≤ (if turnedS lang l p then p + 1 else p) := by
    split
    · rename_i ht
      unfold turnedS at ht
      simp only [Bool.or_eq_true, Bool.and_eq_true] at ht
      rcases ht with e | e
      · have := isB_lt e; omega
      · have := isB_lt e.1; omega
    · omega
  have := readL_end (lang := lang) (l := l) (l.length + 1) (first := true) (s := W4.zero) (p := if turnedS lang l p then p + 1 else p) hq.1 W4.zero_ok (by omega)
  unfold bracketS
  cases hr : readL lang l (l.length + 1) true .zero (if turnedS lang l p then p + 1 else p) with
  | out => rw [hr] at this; exact this
  | bad a b => rw [hr] at this; exact this
  | ok y =>
    rw [hr] at this
    obtain ⟨s, q⟩ := y
    simp only at this ⊢
    refine ⟨?_, by omega, this.2.2⟩
    split
    · exact W4.not_ok _
    · exact this.1

def langN (ext : Bool) : Nat := if ext then 4 else 3
def brkM (ext : Bool) (l : List UInt8) (p : Nat) : Res (T × Nat) :=
  match bracketS (langN ext) l p with
  | .ok x => .ok (.node 1 x.1 0 0 0 [], x.2)
  | .bad a b => .bad a b
  | .out => .out
theorem cx_bracket (c : Cx S n h r bv l p ext op gr) (hk : OwesB S h (langN ext) (bracketS (langN ext) l p) R) : CallsH Tryz.prog 119 #[bv, .int .i64 p, .int .i64 (if ext then 4 else 3)] h R E := by
  have hn := c.nle
  have hN := c.n22
  have hl := c.len
  have e : Value.int .i64 (if ext then 4 else 3) = .int .i64 (langN ext : Nat) := by cases ext <;> rfl
  rw [e]
  refine set_bracket_spec c.gl (by omega) c.by_ (fun b o m k hv => by have := (c.ne b o m k hv).2; omega) c.le (by omega) ?_ hk
  cases ext
  · exact .inr (.inl rfl)
  · exact .inr (.inr rfl)

def tailB (t0 t2 t3 t19 t20 : Value) (R : Value → Heap → Prop) (E : List PanicEntry → Heap → Prop) (h5 : Heap) : Prop :=
  Join0 (fun J2 =>
    Reads Tryz.prog (binS .neq 26 true t20 .nilIface) h5 fun t22 =>
    boolV t22 fun b3 => bcase b3 (
      Reads Tryz.prog (Instr.build 62 #[(0, t20)]) h5 fun t24 =>
      Reads Tryz.prog (Instr.makeInterface 62 t24) h5 fun t25 =>
      Runs Tryz.prog (vS (Instr.panic t25)) h5 (fun u4 h6 =>
      J2 h6) E) (
      J2 h5))
  (fun h7 =>
  Reads Tryz.prog (nilS t0) h7 fun t28 =>
  Reads Tryz.prog (Instr.fieldAt 57 t28 1) h7 fun t29 =>
  pStore Tryz.prog 3 t29 t19 h7 fun h8 =>
  pLoad Tryz.prog 33 t3 h8 fun t30 =>
  Reads Tryz.prog (Instr.build 36 #[(0, (.int .i64 1)), (1, t30)]) h8 fun t31 =>
  pStore Tryz.prog 36 t2 t31 h8 fun h9 =>
  pLoad Tryz.prog 36 t2 h9 fun r5 => R r5 h9)
theorem tail_bad {t0 t2 t3 t19 e : Value} {q code pos : Nat} (he : IsErr S h q (langN ext) code pos e) (hk : ∀ c, Fails S h q ext code pos c → E c h) : tailB t0 t2 t3 t19 e R E h := by
  obtain ⟨a, b, _, _, rfl, _⟩ := id he
  unfold tailB
  refine Join0.intro (fun _ => False) ?_ (fun _ hf => hf.elim)
  rw [Tryz.neq26_s, boolV_bool, bcase_true, Tryz.bd62_0, reads_mkiface Tryz.underlying62 (by simp)]
  exact runs_panic rfl (hk _ ⟨_, he, rfl⟩)
theorem tail_ok {q b2 b3 : Nat} {s : W4} {cs : Array Value} (c : Cx S n h r bv l p ext op gr) (r2 : h[b2]? = some (.cells cs 36 (0, 0))) (z : cs.size = 9) (a3 : At h b3 s) (hq : q ≤ l.length) (n2 : n ≤ b2) (x2 : b2 ≠ r) (x3 : b3 ≠ r)
    (hk : ∀ h9, h9.size = h.size → (∀ k, k ≠ r → k ≠ b2 → h9[k]? = h[k]?) → Cx S n h9 r bv l q ext op gr → R (.agg (reL 1 s 0 0 0 (.slice none 0 0)).toArray) h9) : tailB (ptr r) (.pointer (some ⟨b2, 0, none⟩)) (.pointer (some ⟨b3, 0, none⟩)) (.int .i64 q) .nilIface R E h := by
  unfold tailB
  refine Join0.intro (fun h' => h' = h) ?_ ?_
  · rw [Tryz.neq26_n, boolV_bool, bcase_false]
  rintro h7 rfl
  rw [reads_nil, Tryz.fa57_1, addr_add, Nat.zero_add]
  refine store1 c.rd Tryz.size3 rfl (by simp) fun h8 u8 => ?_
  have s8 := u8.size
  obtain ⟨f8, c8⟩ := c.at_ (p' := q) u8 hq
  refine getSet ((u8.other _ x3).trans a3) ?_
  rw [show Value.agg s.vals.toArray = .agg #[.int .u64 s.a, .int .u64 s.b, .int .u64 s.c, .int .u64 s.d] from rfl, Tryz.bd36_0_1]
  refine ret_full ((u8.other _ x2).trans r2) (xs := (reL 1 s 0 0 0 (.slice none 0 0)).toArray) Tryz.size36 Tryz.agg36 z (flat_reL rfl) fun h9 u9 => ?_
  exact hk h9 (u9.size.trans s8) (fun k k1 k2 => (u9.other _ k2).trans (u8.other _ k1)) (c8.upd u9 n2 x2)
theorem bracket_spec (c : Cx S n h r bv l p ext op gr) (hk : Owes S n h r bv l ext op ((brkM ext l p).with gr) R E) : CallsH Tryz.prog 107 #[ptr r] h R E := by
  have hr := c.rlt
  have hn := c.nle
  have hend := bracketS_end (lang := langN ext) c.le
  unfold brkM at hk
  refine C107 ?_
  unfold S107
  refine alloc_rule Tryz.zero36 fun h1 a1 => ?_
  have s1 := a1.size
  have c1 := c.al a1
  have f1 : Fm h.size r h h1 := Fm.al a1 (Nat.le_refl _)
  refine ⟨fun h' => Rdr h' r bv p ext op gr, c1.rd, ?_⟩
  refine readsS_lift (fun h k => reads_nil) ?_
  refine readsS_lift (fun h k => Tryz.fa57_0) ?_
  rw [addr_add]
  refine pLoadS_one Tryz.agg29 (v := bv) (fun h' hh => by rw [hcell_of hh]; rfl) ?_
  refine readsS_lift (fun h k => reads_nil) ?_
  refine readsS_lift (fun h k => Tryz.fa57_1) ?_
  rw [addr_add, Nat.zero_add]
  refine pLoadS_one Tryz.agg3 (v := .int .i64 p) (fun h' hh => by rw [hcell_of hh]; rfl) ?_
  -- the end, from whichever order
  have last : ∀ {h5 : Heap} {b3 q : Nat} {s : W4}, (∃ y, bracketS (langN ext) l p = .ok y ∧ y = (s, q)) → Fm h.size r h h5 → h5[h.size]? = h1[h.size]? → Cx S n h5 r bv l p ext op gr → At h5 b3 s → h.size < b3 →
      tailB (ptr r) (.pointer (some ⟨h.size, 0, none⟩)) (.pointer (some ⟨b3, 0, none⟩)) (.int .i64 q) .nilIface R E h5 := by
    rintro h5 b3 q s ⟨y, hy, rfl⟩ f5 e5 c5 a5 hb3
    rw [hy] at hk hend
    refine tail_ok c5 (e5.trans a1.at_) rfl a5 hend.2.2 hn (by omega) (by omega) fun h9 s9 o9 c9 => ?_
    exact hk h9 _ (f5.trans ⟨by omega, fun k k1 k2 => o9 k k2 (by omega)⟩) c9 IsRe.leaf
  have lastB : ∀ {h5 h4 : Heap} {t2 t3 t19 e : Value} {code pos : Nat}, bracketS (langN ext) l p = .bad code pos → Fm h.size r h h5 → IsErr S h5 h.size (langN ext) code pos e → tailB (ptr r) t2 t3 t19 e R E h5 := by
    rintro h5 h4 t2 t3 t19 e code pos hy f5 he
    rw [hy] at hk
    exact tail_bad he fun c hc => hk c h5 hc f5
  refine ⟨lang_spec c1 ⟨c1.rd, cx_bracket c1 ?_, ?_⟩, ?_, trivial⟩
  · -- the call, then the place
    cases hm : bracketS (langN ext) l p with
    | out => rw [hm] at hend; exact hend.elim
    | bad code pos =>
      intro h3 e f3 he
      have s3 := f3.size
      have f3' : Fm h.size r h1 h3 := ⟨s3, fun k k1 k2 => f3.same k (by omega) (by omega)⟩
      have c3 := c1.still (f3'.less hn) (f3.same r (by omega) (by omega))
      refine ⟨c3.rd, ?_⟩
      refine readsS_lift (fun h k => reads_ext0) (readsS_lift (fun h k => reads_ext1) (readsS_lift (fun h k => reads_ext2) ⟨?_, trivial⟩))
      refine alloc_rule Tryz.zero33 fun h4 a4 => ?_
      have s4 := a4.size
      have c4 := c3.al a4
      refine ⟨c4.rd, ?_, trivial⟩
      refine putSet (s := W4.zero) a4.at_ rfl fun h5 u5 => ?_
      have s5 := u5.size
      have c5 := c4.upd u5 (by omega) (by omega)
      refine ⟨c5.rd, ?_⟩
      refine lastB (h4 := h4) hm (f1.trans (f3'.trans ((Fm.al a4 (by omega)).trans (Fm.upd u5 (.inl (by omega)))))) ?_
      exact (he.fm fun k k1 k2 => by rw [u5.other _ (by omega), a4.old _ (by omega)]).less (by omega)
    | ok y =>
      intro h3 f3
      have s3 := f3.size
      have f3' : Fm h.size r h1 h3 := ⟨s3, fun k k1 k2 => f3.same k (by omega) (by omega)⟩
      have c3 := c1.still (f3'.less hn) (f3.same r (by omega) (by omega))
      refine ⟨c3.rd, ?_⟩
      refine readsS_lift (fun h k => reads_ext0) (readsS_lift (fun h k => reads_ext1) (readsS_lift (fun h k => reads_ext2) ⟨?_, trivial⟩))
      refine alloc_rule Tryz.zero33 fun h4 a4 => ?_
      have s4 := a4.size
      have c4 := c3.al a4
      refine ⟨c4.rd, ?_, trivial⟩
      refine putSet (s := y.1) a4.at_ rfl fun h5 u5 => ?_
      have s5 := u5.size
      have c5 := c4.upd u5 (by omega) (by omega)
      refine ⟨c5.rd, ?_⟩
      exact last ⟨y, hm, rfl⟩ (f1.trans (f3'.trans ((Fm.al a4 (by omega)).trans (Fm.upd u5 (.inl (by omega)))))) (by rw [u5.other _ (by omega), a4.old _ (by omega), f3.same _ (by omega) (by omega)]) c5 u5.same (by omega)
  · refine ⟨?_, trivial⟩
    refine alloc_rule Tryz.zero33 fun h10 a10 => ?_
    have s10 := a10.size
    have c10 := c1.al a10
    refine ⟨c10.rd, cx_bracket c10 ?_, trivial⟩
    cases hm : bracketS (langN ext) l p with
    | out => rw [hm] at hend; exact hend.elim
    | bad code pos =>
      intro h3 e f3 he
      have s3 := f3.size
      have f3' : Fm h.size r h10 h3 := ⟨s3, fun k k1 k2 => f3.same k (by omega) (by omega)⟩
      have c3 := c10.still (f3'.less hn) (f3.same r (by omega) (by omega))
      refine ⟨c3.rd, ?_⟩
      refine readsS_lift (fun h k => reads_ext0) (readsS_lift (fun h k => reads_ext1) (readsS_lift (fun h k => reads_ext2) ⟨?_, trivial⟩))
      refine putSet (s := W4.zero) ((f3.same _ (by omega) (by omega)).trans a10.at_) rfl fun h5 u5 => ?_
      have s5 := u5.size
      have c5 := c3.upd u5 (by omega) (by omega)
      refine ⟨c5.rd, ?_⟩
      refine lastB (h4 := h3) hm (f1.trans ((Fm.al a10 (by omega)).trans (f3'.trans (Fm.upd u5 (.inl (by omega)))))) ?_
      exact (he.fm fun k k1 k2 => by rw [u5.other _ (by omega)]).less (by omega)
    | ok y =>
      intro h3 f3
      have s3 := f3.size
      have f3' : Fm h.size r h10 h3 := ⟨s3, fun k k1 k2 => f3.same k (by omega) (by omega)⟩
      have c3 := c10.still (f3'.less hn) (f3.same r (by omega) (by omega))
      refine ⟨c3.rd, ?_⟩
      refine readsS_lift (fun h k => reads_ext0) (readsS_lift (fun h k => reads_ext1) (readsS_lift (fun h k => reads_ext2) ⟨?_, trivial⟩))
      refine putSet (s := y.1) ((f3.same _ (by omega) (by omega)).trans a10.at_) rfl fun h5 u5 => ?_
      have s5 := u5.size
      have c5 := c3.upd u5 (by omega) (by omega)
      refine ⟨c5.rd, ?_⟩
      exact last ⟨y, hm, rfl⟩ (f1.trans ((Fm.al a10 (by omega)).trans (f3'.trans (Fm.upd u5 (.inl (by omega)))))) (by rw [u5.other _ (by omega), f3.same _ (by omega) (by omega), a10.old _ (by omega)]) c5 u5.same (by omega)
  · refine alloc_rule Tryz.zero33 fun h10 a10 => ?_
    have s10 := a10.size
    have c10 := c1.al a10
    refine ⟨c10.rd, ?_, trivial⟩
    refine lang_spec c10 ⟨c10.rd, cx_bracket c10 ?_, trivial⟩
    cases hm : bracketS (langN ext) l p with
    | out => rw [hm] at hend; exact hend.elim
    | bad code pos =>
      intro h3 e f3 he
      have s3 := f3.size
      have f3' : Fm h.size r h10 h3 := ⟨s3, fun k k1 k2 => f3.same k (by omega) (by omega)⟩
      have c3 := c10.still (f3'.less hn) (f3.same r (by omega) (by omega))
      refine ⟨c3.rd, ?_⟩
      refine readsS_lift (fun h k => reads_ext0) (readsS_lift (fun h k => reads_ext1) (readsS_lift (fun h k => reads_ext2) ⟨?_, trivial⟩))
      refine putSet (s := W4.zero) ((f3.same _ (by omega) (by omega)).trans a10.at_) rfl fun h5 u5 => ?_
      have s5 := u5.size
      have c5 := c3.upd u5 (by omega) (by omega)
      refine ⟨c5.rd, ?_⟩
      refine lastB (h4 := h3) hm (f1.trans ((Fm.al a10 (by omega)).trans (f3'.trans (Fm.upd u5 (.inl (by omega)))))) ?_
      exact (he.fm fun k k1 k2 => by rw [u5.other _ (by omega)]).less (by omega)
    | ok y =>
      intro h3 f3
      have s3 := f3.size
      have f3' : Fm h.size r h10 h3 := ⟨s3, fun k k1 k2 => f3.same k (by omega) (by omega)⟩
      have c3 := c10.still (f3'.less hn) (f3.same r (by omega) (by omega))
      refine ⟨c3.rd, ?_⟩
      refine readsS_lift (fun h k => reads_ext0) (readsS_lift (fun h k => reads_ext1) (readsS_lift (fun h k => reads_ext2) ⟨?_, trivial⟩))
      refine putSet (s := y.1) ((f3.same _ (by omega) (by omega)).trans a10.at_) rfl fun h5 u5 => ?_
      have s5 := u5.size
      have c5 := c3.upd u5 (by omega) (by omega)
      refine ⟨c5.rd, ?_⟩
      exact last ⟨y, hm, rfl⟩ (f1.trans ((Fm.al a10 (by omega)).trans (f3'.trans (Fm.upd u5 (.inl (by omega)))))) (by rw [u5.other _ (by omega), f3.same _ (by omega) (by omega), a10.old _ (by omega)]) c5 u5.same (by omega)
end Rt
end Go.Proofs
