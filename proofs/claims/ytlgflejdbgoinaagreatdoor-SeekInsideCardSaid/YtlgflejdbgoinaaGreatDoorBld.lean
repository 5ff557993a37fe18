/- A part of the proofs over this seat: Bld. -/
import Derived.Test.YtlgflejdbgoinaaGreatDoorBrk2
import Derived.Lib.ConvBytes
import Derived.Laws.OwnMore
import Derived.Lib.Builder
import Derived.Lib.AppendStr
import Derived.Lib.UnsafeStr
set_option linter.unusedVariables false
set_option linter.unusedSimpArgs false
set_option maxRecDepth 100000
namespace Go.Proofs
open Go.Vcg Go.Extern
namespace Rt
attribute [local congr] Reads.congr ReadsS.congr pLoad.congr pLoadS.congr pStore.congr Runs.congr CallsH.congr bcase.congr boolV.congr Stable.congr pAlloc.congr
variable {S : Glb} {n : Nat} {h : Heap} {r : Nat} {bv : Value} {l : List UInt8} {p lang : Nat} {R : Value → Heap → Prop} {E : List PanicEntry → Heap → Prop}

theorem rangedS_ok {x : ItemR} {frm : Nat} {y : W4 × Nat} (hx : x.2.2.1.ok) (h : rangedS lang l frm x = .ok y) : y.1.ok := by
  unfold rangedS at h
  split at h
  · cases h; exact hx
  · split at h
    · split at h
      · cases h
      · split at h
        · cases h
        · cases h; exact rangeW_ok _ _
    · cases h
    · cases h
theorem rangedS_le {x : ItemR} {frm : Nat} {y : W4 × Nat} (hx : x.2.2.2 ≤ l.length) (h : rangedS lang l frm x = .ok y) : x.2.2.2 ≤ y.2 ∧ y.2 ≤ l.length := by
  unfold rangedS at h
  split at h
  · cases h; exact ⟨Nat.le_refl _, hx⟩
  · rename_i hc
    split at h
    · rename_i z hz
      split at h
      · cases h
      · split at h
        · cases h
        · cases h
          simp only [Bool.or_eq_true, decide_eq_true_eq, not_or] at hc
          have := itemS_le (by omega) hz
          omega
    · cases h
    · cases h
theorem read_spec (c : Bx S n h r bv l p lang) (hk : OwesS S n h r bv l lang (bracketS lang l p) R) : CallsH Tryz.prog 94 #[ptr r] h R E := by
  have hr := at_lt c.rd
  have hl := c.len
  have hpl := c.le
  have hnl := c.nle
  refine C94 ?_
  unfold S94
  refine alloc_rule Tryz.zero146 fun h1 a1 => ?_
  have s1 := a1.size
  have c1 := c.al a1
  have rt1 : h1[h.size]? = some (.cells (Value.agg #[.int .u64 0, .int .u64 0, .int .u64 0, .int .u64 0]).cells 146 (0, 0)) := a1.at_
  refine Join1.intro (fun v h' => h' = h1 ∧ v = .bool (turnedS lang l p)) ?_ ?_
  · refine isB_spec (k := 0) (x := 94) c1 (by omega) ?_
    rw [Nat.add_zero, boolV_bool]
    refine bcase_of (fun h94 => ⟨rfl, rfl, rfl, rfl, rfl, rfl, by unfold turnedS; rw [h94]; rfl⟩) (fun h94 => ?_)
    refine isB_spec (k := 0) (x := 33) c1 (by omega) ?_
    rw [Nat.add_zero, boolV_bool]
    refine bcase_of (fun h33 => ?_) (fun h33 => ⟨rfl, by unfold turnedS; rw [h94, h33]; rfl⟩)
    rw [reads_nil, Tryz.fa168_2, addr_add, Nat.zero_add, c1.ld2, reads_eq, show (2 : Int) = ((2 : Nat) : Int) from rfl, dec_nn_eq]
    exact ⟨rfl, by unfold turnedS; rw [h94, h33]; rfl⟩
  rintro v h2 ⟨rfl, rfl⟩
  generalize htd : turnedS lang l p = td at *
  have hq0 : (if td then p + 1 else p) ≤ l.length := by
    cases td with
    | false => exact hpl
    | true =>
      have : p < l.length := by
        unfold turnedS at htd
        simp only [Bool.or_eq_true, Bool.and_eq_true] at htd
        rcases htd with e | e
        · exact isB_lt e
        · exact isB_lt e.1
      simp only [if_true]; omega
  refine Join0.intro (fun h' => Bx S n h' r bv l (if td then p + 1 else p) lang ∧ Fm h.size r h h' ∧ h'.size = h2.size ∧ h'[h.size]? = h2[h.size]?) ?_ ?_
  · rw [boolV_bool]
    refine bcase_of (fun ht => ?_) (fun ht => ?_)
    · rw [reads_nil, Tryz.fa168_1, addr_add, Nat.zero_add, c1.ld1, reads_add, wrap_n1 _ (by omega), reads_nil, Tryz.fa168_1, addr_add, Nat.zero_add]
      rw [ht] at hq0
      refine c1.goto (by simpa using hq0) fun h3 f3 s3 c3 o3 => ?_
      rw [if_pos ht]
      exact ⟨c3, (Fm.al a1 (Nat.le_refl _)).trans (f3.less (by omega)), s3, o3 _ (by omega)⟩
    · rw [if_neg (by rw [ht]; simp)]
      exact ⟨c1, Fm.al a1 (Nat.le_refl _), rfl, rfl⟩
  rintro h3 ⟨c3, f3, s3, r3⟩
  unfold bracketS at hk
  rw [htd] at hk
  generalize hfin : readL lang l (l.length + 1) true W4.zero (if td then p + 1 else p) = F at hk
  generalize (if td then p + 1 else p) = q0 at *
  refine alloc_rule Tryz.zero146 fun h4 a4 => ?_
  have s4 := a4.size
  have c4 := c3.al a4
  have f4 : Fm h.size r h h4 := f3.trans (Fm.al a4 (by omega))
  have rt4 : h4[h.size]? = some (.cells (Value.agg #[.int .u64 0, .int .u64 0, .int .u64 0, .int .u64 0]).cells 146 (0, 0)) := (a4.old _ (by omega)).trans (r3.trans rt1)
  -- the answer goes into its place
  have fin : ∀ {h8 : Heap} {t : W4} {e : Value}, (∃ cs, h8[h.size]? = some (.cells cs 146 (0, 0)) ∧ cs.size = 4) → (∀ h9, Upd h8 h9 h.size (.cells t.vals.toArray 146 (0, 0)) → R (.tuple #[.agg t.vals.toArray, e]) h9) →
      pStore Tryz.prog 146 (.pointer (some ⟨h.size, 0, none⟩)) (.agg t.vals.toArray) h8 fun h9 => pLoad Tryz.prog 146 (.pointer (some ⟨h.size, 0, none⟩)) h9 fun r7 => R (.tuple #[r7, e]) h9 := by
    intro h8 t e ⟨cs, r8, z8⟩ hq
    refine putSet r8 z8 fun h9 u9 => ?_
    exact getSet u9.same (hq h9 u9)
  refine Loop1.fuel (fun k a h' => ∃ (first : Bool) (s : W4) (q : Nat), a = .bool first ∧ Bx S n h' r bv l q lang ∧ s.ok ∧ Fm h.size r h h' ∧ h4.size ≤ h'.size ∧ At h' h3.size s ∧ h'[h.size]? = h4[h.size]? ∧ readL lang l k first s q = F ∧ l.length < k + q)
    (n := l.length + 1) ⟨true, W4.zero, q0, rfl, c4, W4.zero_ok, f4, Nat.le_refl _, a4.at_, rfl, hfin, by omega⟩ fun k a h5 hi => ?_
  obtain ⟨first, s, q, rfl, c5, os, f5, s5, as5, r5, hF, hfu⟩ := hi
  have hq := c5.le
  have hr5 := at_lt c5.rd
  obtain ⟨k, rfl⟩ : ∃ k', k = k' + 1 := ⟨k - 1, by omega⟩
  unfold readL at hF
  rw [reads_nil, Tryz.fa168_1, addr_add, Nat.zero_add, c5.ld1, reads_nil, Tryz.fa168_0, addr_add, c5.ld0, reads_blen c5.by_ Tryz.underlying115, reads_ge, dec_nn_le, boolV_bool]
  refine bcase_of (fun hc => ?_) (fun hc => ?_)
  · have hc := of_decide_eq_true hc
    rw [if_pos hc] at hF
    subst hF
    refine ⟨fun h' => h'[r]? = some (.cells #[bv, .int .i64 q, .int .i64 lang] 168 (0, 0)) ∧ At h' h3.size s ∧ IsBytes h' bv l, ⟨c5.rd, as5, c5.by_⟩, ?_⟩
    refine getSetS (fun h' hh => hh.2.1) ?_
    refine readsS_lift (fun h k => reads_nil) ?_
    refine readsS_lift (fun h k => Tryz.fa168_0) ?_
    rw [addr_add]
    refine pLoadS_one Tryz.agg115 (v := bv) (fun h' hh => by rw [hcell_of hh.1]; rfl) ?_
    refine readsS_of (v := .int .i64 l.length) (fun w hw => ?_) ?_
    · have := reads_blen (t := 115) (r := 3) hw.2.2 Tryz.underlying115 (k := fun v => v = .int .i64 l.length)
      obtain ⟨v, hv, rfl⟩ := (cast this.symm rfl : Reads Tryz.prog (builtinS .len #[115] 3 #[bv]) w.heap fun v => v = .int .i64 l.length)
      exact hv w rfl
    refine ⟨failB_spec (code := 8) c5 (by omega) (by omega) fun h8 e f8 he => ?_, trivial⟩
    have s8 := f8.size
    refine ⟨⟨(f8.same _ (by omega) (by omega)).trans c5.rd, (f8.same _ (by omega) (by omega)).trans as5, (c5.still f8).by_⟩, ?_, trivial⟩
    refine pStore_mono (fun h' x => ⟨trivial, x⟩) ?_
    refine fin ⟨_, (f8.same _ (by omega) (by omega)).trans (r5.trans rt4), rfl⟩ fun h9 u9 => ?_
    refine hk h9 s _ (f5.trans ((Fm.lift f8 (by omega) (by omega)).trans (Fm.upd u9 (.inl (by omega))))) ?_
    exact (he.fm fun k k1 k2 => u9.other _ (by omega)).less (by omega)
  have hc := of_decide_eq_false hc
  have hlt : q < l.length := by omega
  rw [if_neg hc] at hF
  refine Join0.intro (fun h' => h' = h5 ∧ (!first && isB l q 93) = false) ?_ ?_
  · rw [reads_not, boolV_bool]
    refine bcase_of (fun hnf => ?_) (fun hnf => ⟨rfl, by rw [hnf]; rfl⟩)
    refine isB_spec (k := 0) (x := 93) c5 (by omega) ?_
    rw [Nat.add_zero, boolV_bool]
    refine bcase_of (fun h93 => ?_) (fun h93 => ⟨rfl, by rw [hnf, h93]; rfl⟩)
    rw [if_pos (by rw [hnf, h93]; rfl)] at hF
    subst hF
    rw [reads_nil, Tryz.fa168_1, addr_add, Nat.zero_add, c5.ld1, reads_add, wrap_n1 _ (by omega), reads_nil, Tryz.fa168_1, addr_add, Nat.zero_add]
    refine c5.goto (by omega) fun h6 f6 s6 c6 o6 => ?_
    have as6 : At h6 h3.size s := (o6 _ (by omega)).trans as5
    have rt6 := (o6 h.size (by omega)).trans (r5.trans rt4)
    have f06 : Fm h.size r h h6 := f5.trans (f6.less (by omega))
    rw [boolV_bool]
    refine bcase_of (fun ht => ?_) (fun ht => ?_)
    · rw [ht] at hk
      simp only [if_true] at hk
      refine getSet as6 ?_
      refine not_spec os fun h7 f7 => ?_
      have s7 := f7.size
      refine putSet ((f7.same _ (by omega) (by omega)).trans as6) rfl fun h8 u8 => ?_
      have s8 := u8.size
      refine getSet u8.same ?_
      refine fin ⟨_, (u8.other _ (by omega)).trans ((f7.same _ (by omega) (by omega)).trans rt6), rfl⟩ fun h9 u9 => ?_
      exact hk h9 (f06.trans ((Fm.lift f7 (by omega) (by omega)).trans ((Fm.upd u8 (.inl (by omega))).trans (Fm.upd u9 (.inl (by omega)))))) (((c6.still f7).upd u8 (by omega) (by omega)).upd u9 (by omega) (by omega))
    · rw [ht] at hk
      simp only [Bool.false_eq_true, if_false] at hk
      refine getSet as6 ?_
      refine fin ⟨_, rt6, rfl⟩ fun h9 u9 => ?_
      exact hk h9 (f06.trans (Fm.upd u9 (.inl (by omega)))) (c6.upd u9 (by omega) (by omega))
  rintro h6 ⟨rfl, hn93⟩
  rw [if_neg (by rw [hn93]; simp)] at hF
  refine item_spec8 c5 hlt ?_
  cases hm : itemS lang l q with
  | out => rw [hm] at hF; subst hF; exact hk.elim
  | bad code pos =>
    rw [hm] at hF
    subst hF
    intro h7 one b s' f' e f7 he
    have s7 := f7.size
    rw [reads_ext0, reads_ext1]
    refine alloc_rule Tryz.zero175 fun h8 a8 => ?_
    have s8 := a8.size
    refine storeFull a8.at_ (xs := (itemV one b s' f').toArray) Tryz.size175 rfl (itemV_flat _ _ _ _) fun h9 u9 => ?_
    have s9 := u9.size
    obtain ⟨ea, eb, _, _, rfl, _⟩ := id he
    rw [Tryz.neq26_s, boolV_bool, bcase_true]
    have e69 : ∀ k, k < h6.size → k ≠ r → h9[k]? = h6[k]? := fun k hk hkr => by rw [u9.other _ (by omega), a8.old _ (by omega), f7.same _ hk hkr]
    refine getSet ((e69 _ (by omega) (by omega)).trans as5) ?_
    refine fin ⟨_, (e69 _ (by omega) (by omega)).trans (r5.trans rt4), rfl⟩ fun h10 u10 => ?_
    refine hk h10 s _ (f5.trans ((f7.less (by omega)).trans ((Fm.al a8 (by omega)).trans ((Fm.upd u9 (.inl (by omega))).trans (Fm.upd u10 (.inl (by omega))))))) ?_
    exact (he.fm fun k k1 k2 => by rw [u10.other _ (by omega), u9.other _ (by omega), a8.old _ (by omega)]).less (by omega)
  | ok x =>
    rw [hm] at hF
    simp only at hF
    have hxok := itemS_ok hm
    have hxle := itemS_le hlt hm
    obtain ⟨one, b, s', q1⟩ := x
    simp only at hxok hxle
    intro h7 f7 c7
    have s7 := f7.size
    simp only at c7
    rw [reads_ext0, reads_ext1]
    refine alloc_rule Tryz.zero175 fun h8 a8 => ?_
    have s8 := a8.size
    refine storeFull a8.at_ (xs := (itemV one b s' q).toArray) Tryz.size175 rfl (itemV_flat _ _ _ _) fun h9 u9 => ?_
    have s9 := u9.size
    have c9 := (c7.al a8).upd u9 (by omega) (by have := at_lt c7.rd; omega)
    have e69 : ∀ k, k < h6.size → k ≠ r → h9[k]? = h6[k]? := fun k hk hkr => by rw [u9.other _ (by omega), a8.old _ (by omega), f7.same _ hk hkr]
    have f9 : Fm h.size r h h9 := f5.trans ((f7.less (by omega)).trans ((Fm.al a8 (by omega)).trans (Fm.upd u9 (.inl (by omega)))))
    rw [Tryz.neq26_n, boolV_bool, bcase_false]
    refine load_all u9.same Tryz.agg175 ?_
    refine ranged_spec c9 ?_
    cases hg : rangedS lang l q (one, b, s', q1) with
    | out => rw [hg] at hF; subst hF; exact hk.elim
    | bad code pos =>
      rw [hg] at hF
      subst hF
      intro h10 s2 e f10 he
      have s10 := f10.size
      rw [reads_ext0, reads_ext1]
      refine alloc_rule Tryz.zero146 fun h11 a11 => ?_
      have s11 := a11.size
      refine putSet (s := s2) a11.at_ rfl fun h12 u12 => ?_
      have s12 := u12.size
      obtain ⟨ea, eb, _, _, rfl, _⟩ := id he
      rw [Tryz.neq26_s, boolV_bool, bcase_true]
      have e612 : ∀ k, k < h6.size → k ≠ r → h12[k]? = h6[k]? := fun k hk hkr => by rw [u12.other _ (by omega), a11.old _ (by omega), f10.same _ (by omega) hkr, e69 _ hk hkr]
      refine getSet ((e612 _ (by omega) (by omega)).trans as5) ?_
      refine fin ⟨_, (e612 _ (by omega) (by omega)).trans (r5.trans rt4), rfl⟩ fun h13 u13 => ?_
      refine hk h13 s _ (f9.trans ((f10.less (by omega)).trans ((Fm.al a11 (by omega)).trans ((Fm.upd u12 (.inl (by omega))).trans (Fm.upd u13 (.inl (by omega))))))) ?_
      exact (he.fm fun k k1 k2 => by rw [u13.other _ (by omega), u12.other _ (by omega), a11.old _ (by omega)]).less (by omega)
    | ok y =>
      rw [hg] at hF
      simp only at hF
      have hyok := rangedS_ok (x := (one, b, s', q1)) hxok hg
      have hyle := rangedS_le (x := (one, b, s', q1)) hxle.2 hg
      obtain ⟨t, q2⟩ := y
      simp only at hyok hyle hF
      intro h10 f10 c10
      have s10 := f10.size
      simp only at c10
      rw [reads_ext0, reads_ext1]
      refine alloc_rule Tryz.zero146 fun h11 a11 => ?_
      have s11 := a11.size
      refine putSet (s := t) a11.at_ rfl fun h12 u12 => ?_
      have s12 := u12.size
      have c12 := (c10.al a11).upd u12 (by omega) (by have := at_lt c10.rd; omega)
      have e612 : ∀ k, k < h6.size → k ≠ r → h12[k]? = h6[k]? := fun k hk hkr => by rw [u12.other _ (by omega), a11.old _ (by omega), f10.same _ (by omega) hkr, e69 _ hk hkr]
      rw [Tryz.neq26_n, boolV_bool, bcase_false]
      refine getSet ((e612 _ (by omega) (by omega)).trans as5) ?_
      refine getSet u12.same ?_
      refine unite (vs := [s, t]) rfl (by simp) (by simp) (by simp [os, hyok]) fun h13 f13 => ?_
      have s13 := f13.size
      refine putSet ((f13.same _ (by omega) (by omega)).trans ((e612 _ (by omega) (by omega)).trans as5)) rfl fun h14 u14 => ?_
      have s14 := u14.size
      refine ⟨k, by omega, false, unionM [s, t], q2, rfl, (c12.still f13).upd u14 (by omega) (by omega), unionM_ok (by simp [os, hyok]), ?_, by omega, u14.same, ?_, hF, by omega⟩
      · exact f9.trans ((f10.less (by omega)).trans ((Fm.al a11 (by omega)).trans ((Fm.upd u12 (.inl (by omega))).trans ((Fm.lift f13 (by omega) (by omega)).trans (Fm.upd u14 (.inl (by omega)))))))
      · rw [u14.other _ (by omega), f13.same _ (by omega) (by omega), e612 _ (by omega) (by omega)]
        exact r5
end Rt
end Go.Proofs

set_option maxRecDepth 100000
namespace Go.Proofs
open Go.Vcg Go.Extern
namespace Rt
attribute [local congr] Reads.congr ReadsS.congr pLoad.congr pLoadS.congr pStore.congr Runs.congr CallsH.congr bcase.congr boolV.congr Stable.congr pAlloc.congr
variable {S : Glb} {n : Nat} {h : Heap} {r : Nat} {bv : Value} {l : List UInt8} {p lang : Nat} {R : Value → Heap → Prop} {E : List PanicEntry → Heap → Prop}

theorem Fm.out {n r r' : Nat} {h h' : Heap} (f : Fm n r h h') (hr : n ≤ r) : Fm n r' h h' := ⟨f.size, fun k hk _ => f.same k hk (by omega)⟩
def OwesB (S : Glb) (h : Heap) (lang : Nat) (m : Res (W4 × Nat)) (R : Value → Heap → Prop) : Prop :=
  match m with
  | .out => False
  | .bad code pos => ∀ h' e, Fm h.size h.size h h' → IsErr S h' h.size lang code pos e → R (.tuple #[.agg W4.zero.vals.toArray, .int .i64 0, e]) h'
  | .ok x => ∀ h', Fm h.size h.size h h' → R (.tuple #[.agg x.1.vals.toArray, .int .i64 x.2, .nilIface]) h'
theorem set_bracket_spec (gl : Gl S h) (hn : S.N ≤ h.size) (hb : IsBytes h bv l) (hbl : ∀ b o m c, bv = .slice (some ⟨b, o, none⟩) m c → b < h.size) (hp : p ≤ l.length) (hlen : l.length ≤ 65536) (hl : lang = 2 ∨ lang = 3 ∨ lang = 4)
    (hk : OwesB S h lang (bracketS lang l p) R) : CallsH Tryz.prog 80 #[bv, .int .i64 p, .int .i64 lang] h R E := by
  obtain ⟨p0, n0, c0, hbv⟩ : ∃ p0 n0 c0, bv = .slice p0 n0 c0 := by
    rcases hb with ⟨e, _⟩ | ⟨b, o, c, e, _⟩
    · exact ⟨_, _, _, e⟩
    · exact ⟨_, _, _, e⟩
  refine C80 ?_
  unfold S80
  refine alloc_rule Tryz.zero146 fun h1 a1 => ?_
  have s1 := a1.size
  rw [hbv, Tryz.bd168_0_1_2, ← hbv]
  refine new_rule fun h2 a2 => ?_
  have s2 := a2.size
  have rt2 : h2[h.size]? = some (.cells (Value.agg #[.int .u64 0, .int .u64 0, .int .u64 0, .int .u64 0]).cells 146 (0, 0)) := (a2.old _ (by omega)).trans a1.at_
  have f2 : Fm h.size h.size h h2 := (Fm.al a1 (Nat.le_refl _)).trans (Fm.al a2 (by omega))
  have c2 : Bx S h.size h2 h1.size bv l p lang := ⟨a2.at_, hb.frame fun b o k hv => f2.same b (hbl b o _ k hv) (by have := hbl b o _ k hv; omega), fun b o m c hv => ⟨by have := hbl b o m c hv; omega, hbl b o m c hv⟩, hp, hlen, gl.fm f2 hn hn, by omega, hn, by omega⟩
  refine Join1.intro (fun v h' => h' = h2 ∧ v = .bool false) ?_ ?_
  · rw [reads_lt, boolV_bool, show decide ((p : Int) < 0) = false from by simp, bcase_false, reads_blen c2.by_ Tryz.underlying115, reads_gt, dec_nn_lt, boolV_bool, show decide (l.length < p) = false from by simp; omega, bcase_false]
    rcases hl with rfl | rfl | rfl
    · rw [reads_ne, boolV_bool, show (decide (((2 : Nat) : Int) = 2)) = true from rfl]
      exact ⟨rfl, rfl⟩
    · rw [reads_ne, boolV_bool, show (decide (((3 : Nat) : Int) = 2)) = false from rfl, Bool.not_false, bcase_true, reads_ne, boolV_bool, show (decide (((3 : Nat) : Int) = 3)) = true from rfl]
      exact ⟨rfl, rfl⟩
    · rw [reads_ne, boolV_bool, show (decide (((4 : Nat) : Int) = 2)) = false from rfl, Bool.not_false, bcase_true, reads_ne, boolV_bool, show (decide (((4 : Nat) : Int) = 3)) = false from rfl, Bool.not_false, bcase_true, reads_ne]
      exact ⟨rfl, rfl⟩
  rintro v h3 ⟨rfl, rfl⟩
  rw [boolV_bool, bcase_false]
  refine read_spec c2 ?_
  have fin : ∀ {h8 : Heap} {t : W4} {x e : Value}, (∃ cs, h8[h.size]? = some (.cells cs 146 (0, 0)) ∧ cs.size = 4) → (∀ h9, Upd h8 h9 h.size (.cells t.vals.toArray 146 (0, 0)) → R (.tuple #[.agg t.vals.toArray, x, e]) h9) →
      pStore Tryz.prog 146 (.pointer (some ⟨h.size, 0, none⟩)) (.agg t.vals.toArray) h8 fun h9 => pLoad Tryz.prog 146 (.pointer (some ⟨h.size, 0, none⟩)) h9 fun r7 => R (.tuple #[r7, x, e]) h9 := by
    intro h8 t x e ⟨cs, r8, z8⟩ hq
    refine putSet r8 z8 fun h9 u9 => ?_
    exact getSet u9.same (hq h9 u9)
  cases hm : bracketS lang l p with
  | out => rw [hm] at hk; exact hk.elim
  | bad code pos =>
    rw [hm] at hk
    intro h4 s e f4 he
    have s4 := f4.size
    rw [reads_ext0, reads_ext1]
    refine alloc_rule Tryz.zero146 fun h5 a5 => ?_
    have s5 := a5.size
    refine putSet (s := s) a5.at_ rfl fun h6 u6 => ?_
    have s6 := u6.size
    obtain ⟨ea, eb, _, _, rfl, _⟩ := id he
    rw [Tryz.neq26_s, boolV_bool, bcase_true, Tryz.bd146]
    refine fin (t := W4.zero) ⟨_, (u6.other _ (by omega)).trans ((a5.old _ (by omega)).trans ((f4.same _ (by omega) (by omega)).trans rt2)), rfl⟩ fun h7 u7 => ?_
    refine hk h7 _ (f2.trans ((Fm.out (f4.less (by omega)) (by omega)).trans ((Fm.al a5 (by omega)).trans ((Fm.upd u6 (.inl (by omega))).trans (Fm.upd u7 (.inl (by omega))))))) ?_
    exact (he.fm fun k k1 k2 => by rw [u7.other _ (by omega), u6.other _ (by omega), a5.old _ (by omega)]).less (by omega)
  | ok x =>
    rw [hm] at hk
    obtain ⟨t, q⟩ := x
    intro h4 f4 c4
    have s4 := f4.size
    simp only at c4
    rw [reads_ext0, reads_ext1]
    refine alloc_rule Tryz.zero146 fun h5 a5 => ?_
    have s5 := a5.size
    refine putSet (s := t) a5.at_ rfl fun h6 u6 => ?_
    have s6 := u6.size
    have c6 := (c4.al a5).upd u6 (by omega) (by omega)
    rw [Tryz.neq26_n, boolV_bool, bcase_false]
    refine ⟨fun h' => At h' h4.size t ∧ h'[h1.size]? = some (.cells #[bv, .int .i64 q, .int .i64 lang] 168 (0, 0)), ⟨u6.same, c6.rd⟩, ?_⟩
    refine getSetS (fun h' hh => hh.1) ?_
    refine readsS_lift (fun h k => reads_nil) ?_
    refine readsS_lift (fun h k => Tryz.fa168_1) ?_
    rw [addr_add, Nat.zero_add]
    refine pLoadS_one Tryz.agg3 (v := .int .i64 q) (fun h' hh => by rw [hcell_of hh.2]; rfl) ?_
    refine ⟨?_, trivial⟩
    have r6 : h6[h.size]? = some (.cells (Value.agg #[.int .u64 0, .int .u64 0, .int .u64 0, .int .u64 0]).cells 146 (0, 0)) := (u6.other _ (by omega)).trans ((a5.old _ (by omega)).trans ((f4.same _ (by omega) (by omega)).trans rt2))
    refine putSet r6 rfl fun h7 u7 => ?_
    refine ⟨⟨(u7.other _ (by omega)).trans u6.same, (u7.other _ (by omega)).trans c6.rd⟩, ?_⟩
    refine getSet u7.same ?_
    exact hk h7 (f2.trans ((Fm.out (f4.less (by omega)) (by omega)).trans ((Fm.al a5 (by omega)).trans ((Fm.upd u6 (.inl (by omega))).trans (Fm.upd u7 (.inl (by omega)))))))
end Rt
end Go.Proofs

set_option maxRecDepth 100000
namespace Go.Proofs
open Go.Vcg Go.Extern
namespace Rt
attribute [local congr] Reads.congr ReadsS.congr pLoad.congr pLoadS.congr pStore.congr Runs.congr CallsH.congr bcase.congr boolV.congr Stable.congr pAlloc.congr
variable {S : Glb} {n : Nat} {h : Heap} {r : Nat} {bv : Value} {l : List UInt8} {p lang : Nat} {ext : Bool} {op gr : Nat} {R : Value → Heap → Prop} {E : List PanicEntry → Heap → Prop}

theorem itemS_bad {code pos : Nat} (hp : p < l.length) (h : itemS lang l p = .bad code pos) : code = 8 ∧ pos ≤ l.length := by
  unfold itemS at h
  split at h
  · cases h; exact ⟨rfl, by omega⟩
  split at h
  · split at h
    · split at h
      · cases h
      · cases h; exact ⟨rfl, by omega⟩
    · cases h; exact ⟨rfl, by omega⟩
  split at h
  · split at h
    · cases h
    · cases h; exact ⟨rfl, by omega⟩
  · cases h
theorem itemS_out (h : itemS lang l p = .out) : False := by
  unfold itemS at h
  split at h
  · cases h
  split at h
  · split at h
    · split at h <;> cases h
    · cases h
  split at h
  · split at h <;> cases h
  · cases h
theorem rangedS_bad {x : ItemR} {frm code pos : Nat} (hf : frm ≤ l.length) (h : rangedS lang l frm x = .bad code pos) : (code = 8 ∨ code = 7) ∧ pos ≤ l.length := by
  unfold rangedS at h
  split at h
  · cases h
  · rename_i hc
    simp only [Bool.or_eq_true, decide_eq_true_eq, not_or] at hc
    split at h
    · split at h
      · cases h; exact ⟨.inl rfl, by omega⟩
      · split at h
        · cases h; exact ⟨.inr rfl, hf⟩
        · cases h
    · rename_i a b hz
      cases h
      have := itemS_bad (by omega) hz
      exact ⟨.inl this.1, this.2⟩
    · cases h
theorem rangedS_out {x : ItemR} {frm : Nat} (h : rangedS lang l frm x = .out) : False := by
  unfold rangedS at h
  split at h
  · cases h
  · split at h
    · split at h
      · cases h
      · split at h <;> cases h
    · cases h
    · rename_i hz
      exact itemS_out hz
theorem readL_end : ∀ (k : Nat) {first : Bool} {s : W4} {p : Nat}, p ≤ l.length → s.ok → l.length < k + p → match readL lang l k first s p with
    | .out => False
    | .bad code pos => (code = 8 ∨ code = 7) ∧ pos ≤ l.length
    | .ok y => y.1.ok ∧ p < y.2 ∧ y.2 ≤ l.length
  | 0, first, s, p, hp, hs, hk => by omega
  | k + 1, first, s, p, hp, hs, hk => by
    unfold readL
    by_cases h1 : l.length ≤ p
    · rw [if_pos h1]
      exact ⟨.inl rfl, Nat.le_refl _⟩
    rw [if_neg h1]
    by_cases h2 : (!first && isB l p 93) = true
    · rw [if_pos h2]
      exact ⟨hs, by simp, by simp; omega⟩
    rw [if_neg h2]
    cases hx : itemS lang l p with
    | out => exact itemS_out hx
    | bad a b =>
      have := itemS_bad (by omega) hx
      exact ⟨.inl this.1, this.2⟩
    | ok x =>
      have hle := itemS_le (by omega) hx
      have hok := itemS_ok hx
      simp only
      cases hy : rangedS lang l p x with
      | out => exact rangedS_out hy
      | bad a b => exact rangedS_bad (by omega) hy
      | ok y =>
        obtain ⟨t, p'⟩ := y
        have h3 := rangedS_ok hok hy
        have h4 := rangedS_le hle.2 hy
        simp only at h3 h4
        have := readL_end k (first := false) (s := unionM [s, t]) (p := p') (by omega) (unionM_ok (by simp [hs, h3])) (by omega)
        simp only
        split <;> rename_i e <;> rw [e] at this
        · exact this
        · exact this
        · exact ⟨this.1, by omega, this.2.2⟩
theorem bracketS_end (hp : p ≤ l.length) : match bracketS lang l p with
    | .out => False
    | .bad code pos => (code = 8 ∨ code = 7) ∧ pos ≤ l.length
    | .ok y => y.1.ok ∧ p < y.2 ∧ y.2 ≤ l.length := by
  have hq : (if turnedS lang l p then p + 1 else p) ≤ l.length ∧ p ≤ (if turnedS lang l p then p + 1 else p) := by
    split
    · rename_i ht
      unfold turnedS at ht
      simp only [Bool.or_eq_true, Bool.and_eq_true] at ht
      rcases ht with e | e
      · have := isB_lt e; omega
      · have := isB_lt e.1; omega
    · omega
  have := readL_end (lang := lang) (l := l) (l.length + 1) (first := true) (s := W4.zero) (p := if turnedS lang l p then p + 1 else p) hq.1 W4.zero_ok (by omega)
  unfold bracketS
  cases hr : readL lang l (l.length + 1) true .zero (if turnedS lang l p then p + 1 else p) with
  | out => rw [hr] at this; exact this
  | bad a b => rw [hr] at this; exact this
  | ok y =>
    rw [hr] at this
    obtain ⟨s, q⟩ := y
    simp only at this ⊢
    refine ⟨?_, by omega, this.2.2⟩
    split
    · exact W4.not_ok _
    · exact this.1

end Rt
end Go.Proofs

set_option maxRecDepth 100000
namespace Go.Proofs
open Go.Vcg
namespace Rt
attribute [local congr] Reads.congr ReadsS.congr pLoad.congr pLoadS.congr pStore.congr Runs.congr CallsH.congr bcase.congr boolV.congr Stable.congr pAlloc.congr
variable {S : Glb} {n : Nat} {h : Heap} {r : Nat} {bv : Value} {l : List UInt8} {p : Nat} {R : Value → Heap → Prop} {E : List PanicEntry → Heap → Prop}
def bval (c : UInt8) : Value := .int .u8 c.toNat
/-- a row of bytes that the call owns -/
def ByteRow (h : Heap) (n : Nat) (v : Value) (l : List UInt8) : Prop := Owns h n 5 1 v l.length (l.map bval)
theorem ByteRow.is {v : Value} (b : ByteRow h n v l) : IsBytes h v l := by
  obtain ⟨hl, ho⟩ := b
  rcases ho with ⟨rfl, hz⟩ | ⟨g, cap, cur, rfl, e2, e3, e4, e5, e6, e7⟩
  · exact .inl ⟨rfl, List.length_eq_zero_iff.1 hz⟩
  · refine .inr ⟨g, 0, cap, rfl, e4, fun i hi => ?_⟩
    rw [hcell_of e3]
    simp only [Nat.zero_add, Nat.mul_one] at *
    have : (cur.toList.take l.length)[i]? = (l.map bval)[i]? := by rw [e7]
    rw [List.getElem?_take, if_pos hi] at this
    simpa [hi, bval] using this
theorem push_byte {v : Value} {c : UInt8} {K : Value → Heap → Prop} (b : ByteRow h n v l) (hn : n ≤ h.size) (hlen : l.length ≤ 1000000000) (hK : ∀ v' h', ByteRow h' n v' (l ++ [c]) → (∀ r, Fm n r h h') → K v' h') :
    Runs Tryz.prog (vS (Instr.buildSlice 115 1 #[(0, .int .u8 c.toNat)])) h (fun s h1 => Runs Tryz.prog (builtin .append #[115, 115] 115 #[false, false] #[v, s]) h1 K E) E := by
  refine slice1_rule Tryz.info5 Tryz.underlying115 rfl (by omega) (by omega) fun h1 a1 => ?_
  have s1 := a1.size
  have ho : Owns h1 n 5 1 v l.length (l.map bval) := by
    obtain ⟨hl, ho⟩ := b
    refine ⟨hl, ho.imp id ?_⟩
    rintro ⟨g, cap, cur, e1, e2, e3, e4⟩
    exact ⟨g, cap, cur, e1, e2, (a1.old g (at_lt e3)).trans e3, e4⟩
  refine runs_append' (size := 1) (bytes := 1) (news := [bval c]) Tryz.info5 Tryz.underlying115 rfl (by omega) ho rfl ?_ ?_ (by simp [maxLen]; omega) (by omega) (by omega) fun v' h2 ho' hg hnil hat => ?_
  · intro j u hj
    rw [addr_add, Nat.zero_add, hcell_of a1.at_]
    simpa [Value.cells, bval] using hj
  · intro u hu
    simp only [List.mem_cons, List.not_mem_nil, or_false] at hu
    subst hu
    rfl
  · refine hK v' h2 ?_ fun r => ?_
    · unfold ByteRow
      simpa using ho'
    · refine ⟨by have := hg.size; omega, fun k hk _ => ?_⟩
      rw [hg.block k (by omega) ?_, a1.old k (by omega)]
      intro e
      rcases ho.2 with ⟨rfl, _⟩ | ⟨g, cap, cur, rfl, e2, _⟩
      · cases e
      · have : k = g := by simpa [Value.ownBlock] using e
        omega

theorem runs_sbytes {K : Value → Heap → Prop}
    (hk : ∀ v h' c, Fm h.size h.size h h' → IsBytes h' v l → v = .slice (some ⟨h.size, 0, none⟩) l.length c → h.size < h'.size → K v h') : Runs Tryz.prog (vS (convert 9 115 (str l))) h K E := by
  intro w hw
  subst hw
  have hsz : (⟨l.toArray⟩ : ByteArray).size = l.length := by simp [ByteArray.size]
  have e := Go.Lib.run_convert_string_bytes (P := Tryz.prog) w 9 115 5 ⟨l.toArray⟩ Tryz.underlying9 Tryz.underlying115 Tryz.underlying5
  rw [hsz] at e
  unfold str
  simp only [vS, Sem.run_bind, e, Result.andThen_ok, Sem.run_pure, uponH]
  refine ⟨⟨rfl, rfl, rfl⟩, hk _ _ _ ⟨by rw [Go.Lib.bytesWorld_size]; omega, fun k hk _ => Go.Lib.bytesWorld_at_old w 5 _ k hk⟩ ?_ rfl (by rw [Go.Lib.bytesWorld_size]; omega)⟩
  refine .inr ⟨w.heap.size, 0, _, rfl, ?_, fun i hi => ?_⟩
  · have := grownCap_ge w l.length 0 5
    exact this
  · have := Go.Lib.bytesWorld_cell w 5 ⟨l.toArray⟩ i (by rw [hsz]; exact hi)
    rw [cell_eq] at this
    rw [Nat.zero_add, this]
    simp [List.getD, hi]
theorem runs_empty {K : Value → Heap → Prop} (hk : ∀ v h', ByteRow h' h.size v [] → Al h h' (.cells #[] 5 (0, 0)) → K v h') : Runs Tryz.prog (vS (Instr.buildSlice 115 0 #[])) h K E := by
  obtain ⟨i, h1, h2, h3, h4⟩ := Tryz.info5
  intro w hw
  subst hw
  have hr : (Instr.buildSlice 115 0 #[]).run Tryz.prog w = .ok (.slice (some ⟨w.heap.size, 0, none⟩) 0 0) (w.alloc (.cells #[] 5)) := by
    simp [Instr.buildSlice, Go.underlying, program, Sem.run, Tryz.underlying115, sizeOf, typeInfo, h1, Instr.fill, newRow, newObj]
    have e : Array.map (fun (x : Nat) => (default : Value)) (Array.range 0) = #[] := by simp [Array.range]
    rw [e]
  simp only [vS, Sem.run_bind, hr, Result.andThen_ok, Sem.run_pure, uponH]
  refine ⟨⟨rfl, rfl, rfl⟩, hk _ _ ⟨rfl, .inr ⟨w.heap.size, 0, #[], rfl, Nat.le_refl _, (Al.push ..).at_, Nat.le_refl _, by simp [maxLen], rfl, rfl⟩⟩ (Al.push ..)⟩
theorem ByteRow.al {v : Value} {o : Obj} {h' : Heap} (b : ByteRow h n v l) (a : Al h h' o) : ByteRow h' n v l := by
  obtain ⟨hl, ho⟩ := b
  refine ⟨hl, ho.imp id ?_⟩
  rintro ⟨g, cap, cur, e1, e2, e3, e4⟩
  exact ⟨g, cap, cur, e1, e2, (a.old g (at_lt e3)).trans e3, e4⟩
theorem push_bytes {v u : Value} {m : List UInt8} {K : Value → Heap → Prop} (b : ByteRow h n v l) (hu : IsBytes h u m) (hn : n ≤ h.size) (hlen : l.length + m.length ≤ 1000000000) (hK : ∀ v' h', ByteRow h' n v' (l ++ m) → (∀ r, Fm n r h h') → K v' h') :
    Runs Tryz.prog (builtin .append #[115, 115] 115 #[false, false] #[v, u]) h K E := by
  rcases hu with ⟨rfl, rfl⟩ | ⟨bl, o, c, rfl, hc, hat0⟩
  · obtain ⟨i, h1, h2, h3, h4⟩ := Tryz.info5
    intro w hw
    subst hw
    have hr := run_append_owned_none (P := Tryz.prog) (w := w) n 115 115 5 i 1 Tryz.underlying115 h1 v l.length (l.map bval) b
    simp only [builtin, Sem.run_bind, hr, Result.andThen_ok, Sem.run_pure, uponH]
    refine ⟨⟨rfl, rfl, rfl⟩, hK v w.heap (by simpa using b) fun r => Fm.refl ..⟩
  · have hb := b
    refine runs_append' (size := 1) (bytes := 1) (news := m.map bval) Tryz.info5 Tryz.underlying115 rfl (by omega) b (by simp) ?_ ?_ (by simp [maxLen]; omega) (by omega) hn fun v' h2 ho' hg hnil hat => ?_
    · intro j x hj
      obtain ⟨hjl, hx⟩ := List.getElem?_eq_some_iff.1 hj
      rw [addr_add]
      have := hat0 j (by simpa using hjl)
      simp only [List.getElem_map] at hx
      rw [← hx]
      exact this
    · intro x hx
      obtain ⟨y, _, rfl⟩ := List.mem_map.1 hx
      rfl
    · refine hK v' h2 ?_ fun r => ?_
      · unfold ByteRow
        simpa using ho'
      · refine ⟨hg.size, fun k hk _ => ?_⟩
        refine hg.block k (by omega) fun e => ?_
        rcases hb.2 with ⟨rfl, _⟩ | ⟨g, cap, cur, rfl, e2, _⟩
        · cases e
        · have : k = g := by simpa [Value.ownBlock] using e
          omega
/-- how many bytes are an opening sign -/
theorem ByteRow.lt {v : Value} (r : ByteRow h n v l) : ∀ b o m c, v = .slice (some ⟨b, o, none⟩) m c → b < h.size := by
  intro b o m c e
  obtain ⟨_, ho⟩ := r
  rcases ho with ⟨rfl, _⟩ | ⟨g, cap, cur, rfl, _, e3, _⟩
  · cases e
  · injection e with e; injection e with e; injection e with e
    subst e
    exact at_lt e3
theorem ByteRow.frame {h' : Heap} {v : Value} (k : ByteRow h n v l) (hs : ∀ b, n ≤ b → b < h.size → h'[b]? = h[b]?) : ByteRow h' n v l := by
  obtain ⟨h1, h2⟩ := k
  refine ⟨h1, h2.imp id ?_⟩
  rintro ⟨g, cap, cur, e1, e2, e3, e4⟩
  exact ⟨g, cap, cur, e1, e2, (hs g e2 (at_lt e3)).trans e3, e4⟩
end Rt
end Go.Proofs

set_option maxRecDepth 100000
namespace Go.Proofs
open Go.Vcg
namespace Rt
variable {n b : Nat} {h : Heap} {l : List UInt8} {R : Value → Heap → Prop} {E : List PanicEntry → Heap → Prop}
theorem cv85_91 {x y : Value} {k : Value → Prop} (hb : h[b]? = some (.cells #[x, y] 117 (0, 0))) : Reads Tryz.prog (convert 114 84 (ptr b)) h k = k (ptr b) := reads_of fun w hw => by
  subst hw
  have hi : ∃ j, Tryz.prog.info? 117 = some j ∧ j.size ≠ 0 := by
    have h2 : sizeT Tryz.prog 117 = some 2 := by kernel_rfl
    unfold sizeT at h2
    split at h2
    · rename_i i hi; exact ⟨i, hi, by simp at h2; omega⟩
    · cases h2
  obtain ⟨j, hj, h0⟩ := hi
  exact Go.Lib.run_to_unsafe w ⟨b, 0, none⟩ Tryz.underlying114 Tryz.underlying84 hj h0 (e := 117) (cells := 2) (by simp [World.shape?, hb]) (by simp)
theorem cv91_85 {x y : Value} {k : Value → Prop} (hb : h[b]? = some (.cells #[x, y] 117 (0, 0))) : Reads Tryz.prog (convert 84 114 (ptr b)) h k = k (ptr b) := reads_of fun w hw => by
  subst hw
  have hi : ∃ j, Tryz.prog.info? 117 = some j := by
    have h2 : sizeT Tryz.prog 117 = some 2 := by kernel_rfl
    unfold sizeT at h2
    split at h2
    · rename_i i hi; exact ⟨i, hi⟩
    · cases h2
  obtain ⟨j, hj⟩ := hi
  exact Go.Lib.run_from_unsafe w ⟨b, 0, none⟩ Tryz.underlying84 Tryz.underlying114 hj (e := 117) (cells := 2) (by simp [World.shape?, hb]) (by kernel_rfl)
theorem noescape_spec {x : Value} {K : Value → Heap → Prop} (hk : K x h) : Runs Tryz.prog (do let d ← Deferred.ofValue (.func (.func 85) #[] #[]) #[x]; invoke d.target d.args) h K E := by
  intro w hw
  subst hw
  have hr := run_callFunc_extern (P := Tryz.prog) (f := 85) (fn := Tryz.f85) (e := Extern.AbiNoEscape.same) Tryz.func85 (by kernel_rfl) (by kernel_rfl) (by kernel_rfl) (by kernel_rfl) #[x] w
  rw [Go.Lib.run_noEscape] at hr
  simp [Deferred.ofValue, invoke, hr, uponH, Same.refl]
  exact hk

/-- a strings.Builder at block b, which holds the bytes l -/
def SB (h : Heap) (n b : Nat) (l : List UInt8) : Prop := b < n ∧ ∃ p v, (p = .pointer none ∨ p = ptr b) ∧ h[b]? = some (.cells #[p, v] 117 (0, 0)) ∧ ByteRow h n v l
/-- all but a builder's own blocks: what is no row of bytes stays -/
structure Fq (b : Nat) (h h' : Heap) : Prop where
  size : h.size ≤ h'.size
  same : ∀ k, k < h.size → k ≠ b → (∀ cur, h[k]? ≠ some (.cells cur 5 (0, 0))) → h'[k]? = h[k]?
theorem Fq.refl (b : Nat) (h : Heap) : Fq b h h := ⟨Nat.le_refl _, fun _ _ _ _ => rfl⟩
theorem Fq.trans {b : Nat} {h h' h'' : Heap} (x : Fq b h h') (y : Fq b h' h'') : Fq b h h'' := by
  refine ⟨Nat.le_trans x.size y.size, fun k hk hb h5 => ?_⟩
  have e := x.same k hk hb h5
  exact (y.same k (Nat.lt_of_lt_of_le hk x.size) hb (by rw [e]; exact h5)).trans e
theorem Fq.of {b m : Nat} {h h' : Heap} (f : Fm h.size m h h') (hm : h.size ≤ m) : Fq b h h' := ⟨f.size, fun k hk _ _ => f.same k hk (by omega)⟩
theorem Fq.upd {b : Nat} {h h' : Heap} {o : Obj} (u : Upd h h' b o) : Fq b h h' := ⟨by rw [u.size]; exact Nat.le_refl _, fun k _ hb _ => u.other k hb⟩
theorem Fq.al {b : Nat} {h h' : Heap} {o : Obj} (a : Al h h' o) : Fq b h h' := ⟨by rw [a.size]; omega, fun k hk _ _ => a.old k hk⟩
theorem Fq.grown {b : Nat} {h h' : Heap} {v : Value} (g : GrownH h h' v.ownBlock) (hr : ByteRow h n v l) : Fq b h h' := by
  refine ⟨g.size, fun k hk _ h5 => g.block k hk ?_⟩
  intro e
  rcases hr.2 with ⟨rfl, _⟩ | ⟨g', cap, cur, rfl, e2, e3, _⟩
  · cases e
  · have : k = g' := by simpa [Value.ownBlock] using e
    subst this
    exact h5 cur e3
theorem eq85 {k : Value → Prop} : Reads Tryz.prog (binS .neq 114 false (ptr b) (ptr b)) h k = k (.bool false) := reads_of fun w hw => by
  have hi : ∃ j, Tryz.prog.info? 117 = some j := by
    have h2 : sizeT Tryz.prog 117 = some 2 := by kernel_rfl
    unfold sizeT at h2
    split at h2
    · rename_i i hi; exact ⟨i, hi⟩
    · cases h2
  obtain ⟨j, hj⟩ := hi
  have := Go.Lib.run_neq_ptr_same w ⟨b, 0, none⟩ Tryz.underlying114 hj
  simp only [binS, guardS, ptr]
  simpa using this
theorem copy_spec {v : Value} {p : Value} (hp : p = .pointer none ∨ p = ptr b) (hb : h[b]? = some (.cells #[p, v] 117 (0, 0)))
    (hk : ∀ h', h'.size = h.size → (∀ k, k ≠ b → h'[k]? = h[k]?) → h'[b]? = some (.cells #[ptr b, v] 117 (0, 0)) → R (.tuple #[]) h') : CallsH Tryz.prog 72 #[ptr b] h R E := by
  refine C72 ?_
  unfold S72
  rw [reads_nil, Tryz.fa117_0, addr_add, pLoad_one (v := p) Tryz.agg114 (by rw [hcell_of hb]; rfl)]
  rcases hp with rfl | rfl
  · rw [Tryz.eql114_n, boolV_bool, bcase_true, cv85_91 hb]
    refine noescape_spec ?_
    rw [cv91_85 hb, reads_nil, Tryz.fa117_0, addr_add]
    refine store1 hb Tryz.size114 rfl (by simp) fun h' hu => hk h' hu.size hu.other hu.same
  · rw [Tryz.eql114_s, boolV_bool, bcase_false, reads_nil, Tryz.fa117_0, addr_add, pLoad_one (v := ptr b) Tryz.agg114 (by rw [hcell_of hb]; rfl), eq85, boolV_bool, bcase_false]
    exact hk h rfl (fun _ _ => rfl) hb
theorem push_str {v : Value} {x : List UInt8} {cs : Array Bool} {K : Value → Heap → Prop} (r : ByteRow h n v l) (hn : n ≤ h.size) (hl : l.length ≤ 1000000) (hx : x.length ≤ 1000000) (hK : ∀ v' h', ByteRow h' n v' (l ++ x) → (∀ r, Fm n r h h') → (∀ r, Fq r h h') → K v' h') :
    Runs Tryz.prog (builtin .append #[115, 9] 115 cs #[v, str x]) h K E := by
  obtain ⟨i, hi, hz, hsize, hby⟩ := Tryz.info5
  intro w hw
  subst hw
  have hsz : (⟨x.toArray⟩ : ByteArray).size = x.length := by simp [ByteArray.size]
  obtain ⟨v', w', hr, ho, hg, hnil⟩ := Go.Lib.run_append_own_string (P := Tryz.prog) w n 115 9 115 5 i Tryz.underlying115 Tryz.underlying9 hi hz hsize hby v l.length (l.map bval) r ⟨x.toArray⟩ (by rw [hsz]; simp [maxLen]; omega) (by rw [hsz]; omega) hn
  have hcells : Go.Lib.strCells ⟨x.toArray⟩ = x.map bval := by simp [Go.Lib.strCells, bval]
  rw [hsz, hcells] at ho
  unfold str
  simp only [builtin, Sem.run_bind, hr, Result.andThen_ok, Sem.run_pure, uponH]
  refine ⟨⟨hg.os, hg.tape, hg.output⟩, hK v' w'.heap ?_ (fun q => ⟨hg.size, fun k hk _ => hg.block k (by omega) ?_⟩) fun q => Fq.grown ⟨hg.size, hg.block⟩ r⟩
  · unfold ByteRow
    rw [List.length_append, List.map_append]
    exact ho
  · intro e
    rcases r.2 with ⟨rfl, _⟩ | ⟨g, cap, cur, rfl, e2, _⟩
    · cases e
    · have : k = g := by simpa [Value.ownBlock] using e
      omega
theorem wstr_spec {x : List UInt8} (hs : SB h n b l) (hn : n ≤ h.size) (hl : l.length ≤ 1000000) (hx : x.length ≤ 1000000) (hk : ∀ h' v, SB h' n b (l ++ x) → Fm n b h h' → Fq b h h' → R v h') : CallsH Tryz.prog 60 #[ptr b, str x] h R E := by
  obtain ⟨hbn, p, v, hp, hb, hr⟩ := hs
  refine C60 ?_
  unfold S60
  refine copy_spec hp hb fun h1 s1 o1 b1 => ?_
  have r1 : ByteRow h1 n v l := hr.frame fun k h1 h2 => o1 k (by omega)
  rw [reads_nil, Tryz.fa117_1, addr_add, Nat.zero_add, pLoad_one (v := v) Tryz.agg115 (by rw [hcell_of b1]; rfl)]
  refine push_str r1 (by omega) hl hx fun v' h2 r2 f2 q2 => ?_
  have b2 := ((f2 h2.size).same b hbn (by have := (f2 0).size; omega)).trans b1
  rw [reads_nil, Tryz.fa117_1, addr_add, Nat.zero_add]
  have hv : flat v' = true := by
    rcases r2.2 with ⟨rfl, _⟩ | ⟨g, cap, cur, rfl, _⟩ <;> rfl
  refine store1 b2 Tryz.size115 hv (by simp) fun h3 hu3 => ?_
  rw [reads_slen Tryz.underlying9]
  have f1 : Fm n b h h1 := ⟨by omega, fun k _ hkb => o1 k hkb⟩
  exact hk h3 _ ⟨hbn, ptr b, v', .inr rfl, hu3.same, r2.frame fun k h1 h2 => hu3.other k (by omega)⟩ ((f1.trans (f2 b)).trans (Fm.upd hu3 (.inr rfl))) ((Fq.trans ⟨by omega, fun k hk hb _ => o1 k hb⟩ (q2 b)).trans (Fq.upd hu3))
theorem string_spec (hs : SB h n b l) (h0 : l ≠ []) (hl : l.length ≤ 1000000) (hk : ∀ h', h'.size = h.size → (∀ k, k < n → h'[k]? = h[k]?) → R (str l) h') : CallsH Tryz.prog 62 #[ptr b] h R E := by
  obtain ⟨hbn, p, v, hp, hb, hr⟩ := hs
  have his := hr.is
  obtain ⟨hlen, ho⟩ := hr
  rcases ho with ⟨_, hz⟩ | ⟨g, cap, cur, rfl, e2, e3, e4, e5, e6, e7⟩
  · exact absurd (List.length_eq_zero_iff.1 hz) h0
  have hl0 : l.length ≠ 0 := fun e => h0 (List.length_eq_zero_iff.1 e)
  refine C62 ?_
  unfold S62
  rw [reads_nil, Tryz.fa117_1, addr_add, Nat.zero_add, pLoad_one (v := .slice (some ⟨g, 0, none⟩) l.length cap) Tryz.agg115 (by rw [hcell_of hb]; rfl)]
  rw [reads_pure (s := builtinS .unsafeSliceData #[115] 131 #[.slice (some ⟨g, 0, none⟩) l.length cap]) (v := .pointer (some ⟨g, 0, none⟩)) (fun w => Go.Lib.run_unsafeSliceData_row (P := Tryz.prog) w #[115] 131 ⟨g, 0, none⟩ l.length cap (by omega))]
  rw [reads_nil, Tryz.fa117_1, addr_add, Nat.zero_add, pLoad_one (v := .slice (some ⟨g, 0, none⟩) l.length cap) Tryz.agg115 (by rw [hcell_of hb]; rfl), reads_rlen Tryz.underlying115]
  refine ⟨?_, trivial⟩
  intro w hw
  subst hw
  have hat : ∀ j x, l[j]? = some x → w.cell? ((⟨g, 0, none⟩ : Addr).add j) = some (.int .u8 x.toNat) := by
    intro j x hj
    rw [cell_eq, addr_add, hcell_of e3]
    obtain ⟨hjl, rfl⟩ := List.getElem?_eq_some_iff.1 hj
    have : (cur.toList.take (l.length * 1))[j]? = (l.map bval)[j]? := by rw [e7]
    rw [List.getElem?_take, if_pos (by omega)] at this
    simpa [hjl, bval] using this
  have hr := Go.Lib.run_unsafeString_row (P := Tryz.prog) w 131 3 9 5 Tryz.underlying131 (by kernel_rfl) g cur.size (by simp [World.shape?, e3]) l h0 (by omega) (by omega) hat
  simp only [builtin, Sem.run_bind, hr, Result.andThen_ok, Sem.run_pure, uponH]
  unfold World.freeze
  rw [if_neg hl0]
  refine ⟨⟨rfl, rfl, rfl⟩, trivial, hk _ (by simp only [Array.size_modify]) fun k hk => ?_⟩
  have : g ≠ k := by omega
  simp only [Array.getElem?_modify, this, if_false]
end Rt
end Go.Proofs
