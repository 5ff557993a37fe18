/- A part of the proofs over this seat: Ext4. -/
import Derived.Test.YthlncmkeccgfeaaGreatDoorExt3
set_option linter.unusedVariables false
set_option linter.unusedSimpArgs false
set_option maxRecDepth 100000
namespace Go.Proofs
open Go.Vcg
namespace Rt
attribute [local congr] Reads.congr ReadsS.congr pLoad.congr pLoadS.congr pStore.congr Runs.congr CallsH.congr bcase.congr boolV.congr Stable.congr pAlloc.congr
variable {S : Glb} {n : Nat} {h : Heap} {r : Nat} {bv : Value} {l : List UInt8} {p : Nat} {ext : Bool} {op gr : Nat} {R : Value → Heap → Prop} {E : List PanicEntry → Heap → Prop}

theorem reads_klen {v : Value} {ts : List T} {m : Nat} {K : Value → Prop} (k : Kids h m v ts) : Reads Tryz.prog (builtinS .len #[34] 3 #[v]) h K = K (.int .i64 ts.length) := by
  obtain ⟨xs, ⟨h1, h2⟩, h3⟩ := k
  rcases h2 with ⟨rfl, hz⟩ | ⟨g, cap, cur, rfl, _⟩
  · rw [reads_rlen Tryz.underlying34, hz]
  · rw [reads_rlen Tryz.underlying34]

theorem branch_spec {k : Nat} (hI : ∀ i, i < k → ItemOk i) (hk0 : k ≤ 1000000) : BranchOk k := by
  intro S n h r bv l p ext op gr R E he c hk
  refine C78 ?_
  unfold S78
  refine alloc_rule Tryz.zero36 fun h1 a1 => ?_
  have s1 := a1.size
  have c1 := c.al a1
  have hr := c.rlt
  have hl := c.len
  have f1 : Fm h.size r h h1 := Fm.al a1 (Nat.le_refl _)
  have Inv : ∃ Inv : Nat → Value → Heap → Prop, ∀ j v h', Inv j v h' ↔ ∃ (ts : List T) (p' gr' : Nat) (cs : Array Value), j + ts.length ≤ k ∧ Fm h.size r h h' ∧ h1.size ≤ h'.size ∧ Cx S n h' r bv l p' ext op gr' ∧ h'[h.size]? = some (.cells cs 36 (0, 0)) ∧ cs.size = 9 ∧
      Kids h' h1.size v ts ∧ Owes S n h r bv l ext op (branchL j l ts p' op gr') R E := ⟨_, fun _ _ _ => Iff.rfl⟩
  obtain ⟨Inv, hInv⟩ := Inv
  refine Loop1.fuel Inv (n := k) ((hInv _ _ _).2 ⟨[], p, gr, _, by simp, f1, Nat.le_refl _, c1, a1.at_, rfl, Kids.nil _ _, hk⟩) fun j v h4 hi4 => ?_
  rw [hInv] at hi4
  obtain ⟨ts, p', gr', cs, hjk, f4, hs4, c4, hb, hcs, hkid, hk4⟩ := hi4
  have s4 := f4.size
  have hr4 := c4.rlt
  have hp4 := c4.le
  cases j with
  | zero => unfold branchL at hk4; exact hk4.elim
  | succ j =>
  unfold branchL at hk4
  by_cases hcond : l.length ≤ p' ∨ isM l [124] p' = true ∨ isM l [41] p' = true
  · rw [if_pos hcond] at hk4
    refine Join0.intro (fun h' => False) ?_ (fun _ h => h.elim)
    refine done_spec c4 ?_
    simp only [reads_not, boolV_bool]
    refine bcase_of (fun hd => ?_) (fun hd => ?_)
    · refine is_spec c4 (by simp) ?_
      simp only [reads_not, boolV_bool]
      refine bcase_of (fun hd2 => ?_) (fun hd2 => ?_)
      · refine is_spec c4 (by simp) ?_
        simp only [reads_not, boolV_bool]
        refine bcase_of (fun hd3 => ?_) (fun hd3 => ?_)
        · have h1 : ¬ l.length ≤ p' := by simpa using hd
          have h2 : ¬ isM l [124] p' = true := by simpa using hd2
          have h3 : ¬ isM l [41] p' = true := by simpa using hd3
          exact absurd hcond (by simp [h1, h2, h3])
        clear hd hd2 hd3
        simp only [boolV_bool, bcase_true, bcase_false, need, Tryz.zero36, reads_not, reads_pick, Tryz.size36, Tryz.agg36, reads_eq, reads_nil, Tryz.fa57_3, addr_add, Tryz.agg3, Tryz.fa57_1, reads_klen hkid]
        refine bcase_of (fun hz => ?_) (fun hz => ?_)
        · have hts : ts = [] := List.length_eq_zero_iff.1 (by have := of_decide_eq_true hz; omega)
          subst hts
          simp only [List.isEmpty_nil, if_true] at hk4
          refine Join0.intro (fun h' => h' = h4 ∧ ¬ (isM l [41] p' = true ∧ op = 0)) ?_ ?_
          · refine Join1.intro (fun v h' => h' = h4 ∧ v = .bool (isM l [41] p' && decide (op = 0))) ?_ ?_
            · refine is_spec c4 (by simp) ?_
              simp only [boolV_bool, bcase_true, bcase_false, need, Tryz.zero36, reads_not, reads_pick, Tryz.size36, Tryz.agg36, reads_eq, reads_nil, Tryz.fa57_3, addr_add, Tryz.agg3, Tryz.fa57_1, c4.ld3, Nat.zero_add]
              refine bcase_of (fun hy => ⟨trivial, ?_⟩) (fun hn => ⟨trivial, ?_⟩)
              · rw [hy, Bool.true_and]; congr 1; by_cases ho : op = 0 <;> simp [ho]
              · rw [hn, Bool.false_and]
            · rintro w h5 ⟨rfl, rfl⟩
              simp only [boolV_bool, bcase_true, bcase_false, need, Tryz.zero36, reads_not, reads_pick, Tryz.size36, Tryz.agg36, reads_eq, reads_nil, Tryz.fa57_3, addr_add, Tryz.agg3, Tryz.fa57_1, c4.ld1, Nat.zero_add]
              refine bcase_of (fun hy => ?_) (fun hn => ⟨trivial, ?_⟩)
              · simp only [Bool.and_eq_true, decide_eq_true_eq] at hy
                rw [if_pos hy] at hk4
                exact fail_spec (code := 9) c4 (by omega) (by omega) fun e h' hf f => hk4 e h' (hf.more (by omega)) (f4.trans (f.less (by omega)))
              · rintro ⟨x, y⟩
                rw [x, y] at hn
                cases hn
          · rintro h5 ⟨rfl, hno⟩
            rw [if_neg hno] at hk4
            simp only [boolV_bool, bcase_true, bcase_false, need, Tryz.zero36, reads_not, reads_pick, Tryz.size36, Tryz.agg36, reads_eq, reads_nil, Tryz.fa57_3, addr_add, Tryz.agg3, Tryz.fa57_1, c4.ld1, Nat.zero_add]
            exact fail_spec (code := 3) c4 (by omega) (by omega) fun e h' hf f => hk4 e h' (hf.more (by omega)) (f4.trans (f.less (by omega)))
        · have hts : ts ≠ [] := by rintro rfl; simp at hz
          have hts' : ts.isEmpty = false := by cases ts <;> simp at hts ⊢
          simp only [hts', Bool.false_eq_true, if_false] at hk4
          refine joined_spec (kind := 4) hkid hs4 hts fun h5 vs f5 ht5 => ?_
          have s5 := f5.size
          refine ret_re (Q := fun b => h1.size ≤ b) ((f5.same h.size (by omega) (by omega)).trans hb) hcs (fun x hx => by omega) ht5 fun h6 hu6 ht6 => ?_
          have f5' : Fm h4.size r h4 h5 := ⟨f5.size, fun k hk _ => f5.same k hk (by omega)⟩
          exact hk4 h6 vs ((f4.trans (f5'.less (by omega))).trans (Fm.upd hu6 (.inl (Nat.le_refl _)))) ((c4.still (f5'.less c4.nle) (f5.same r hr4 (by omega))).upd hu6 c.nle (by omega)) (ht6.frame fun b hb _ => ⟨by omega, rfl⟩)
      clear hd hd2
      simp only [boolV_bool, bcase_true, bcase_false, need, Tryz.zero36, reads_not, reads_pick, Tryz.size36, Tryz.agg36, reads_eq, reads_nil, Tryz.fa57_3, addr_add, Tryz.agg3, Tryz.fa57_1, reads_klen hkid]
      refine bcase_of (fun hz => ?_) (fun hz => ?_)
      · have hts : ts = [] := List.length_eq_zero_iff.1 (by have := of_decide_eq_true hz; omega)
        subst hts
        simp only [List.isEmpty_nil, if_true] at hk4
        refine Join0.intro (fun h' => h' = h4 ∧ ¬ (isM l [41] p' = true ∧ op = 0)) ?_ ?_
        · refine Join1.intro (fun v h' => h' = h4 ∧ v = .bool (isM l [41] p' && decide (op = 0))) ?_ ?_
          · refine is_spec c4 (by simp) ?_
            simp only [boolV_bool, bcase_true, bcase_false, need, Tryz.zero36, reads_not, reads_pick, Tryz.size36, Tryz.agg36, reads_eq, reads_nil, Tryz.fa57_3, addr_add, Tryz.agg3, Tryz.fa57_1, c4.ld3, Nat.zero_add]
            refine bcase_of (fun hy => ⟨trivial, ?_⟩) (fun hn => ⟨trivial, ?_⟩)
            · rw [hy, Bool.true_and]; congr 1; by_cases ho : op = 0 <;> simp [ho]
            · rw [hn, Bool.false_and]
          · rintro w h5 ⟨rfl, rfl⟩
            simp only [boolV_bool, bcase_true, bcase_false, need, Tryz.zero36, reads_not, reads_pick, Tryz.size36, Tryz.agg36, reads_eq, reads_nil, Tryz.fa57_3, addr_add, Tryz.agg3, Tryz.fa57_1, c4.ld1, Nat.zero_add]
            refine bcase_of (fun hy => ?_) (fun hn => ⟨trivial, ?_⟩)
            · simp only [Bool.and_eq_true, decide_eq_true_eq] at hy
              rw [if_pos hy] at hk4
              exact fail_spec (code := 9) c4 (by omega) (by omega) fun e h' hf f => hk4 e h' (hf.more (by omega)) (f4.trans (f.less (by omega)))
            · rintro ⟨x, y⟩
              rw [x, y] at hn
              cases hn
        · rintro h5 ⟨rfl, hno⟩
          rw [if_neg hno] at hk4
          simp only [boolV_bool, bcase_true, bcase_false, need, Tryz.zero36, reads_not, reads_pick, Tryz.size36, Tryz.agg36, reads_eq, reads_nil, Tryz.fa57_3, addr_add, Tryz.agg3, Tryz.fa57_1, c4.ld1, Nat.zero_add]
          exact fail_spec (code := 3) c4 (by omega) (by omega) fun e h' hf f => hk4 e h' (hf.more (by omega)) (f4.trans (f.less (by omega)))
      · have hts : ts ≠ [] := by rintro rfl; simp at hz
        have hts' : ts.isEmpty = false := by cases ts <;> simp at hts ⊢
        simp only [hts', Bool.false_eq_true, if_false] at hk4
        refine joined_spec (kind := 4) hkid hs4 hts fun h5 vs f5 ht5 => ?_
        have s5 := f5.size
        refine ret_re (Q := fun b => h1.size ≤ b) ((f5.same h.size (by omega) (by omega)).trans hb) hcs (fun x hx => by omega) ht5 fun h6 hu6 ht6 => ?_
        have f5' : Fm h4.size r h4 h5 := ⟨f5.size, fun k hk _ => f5.same k hk (by omega)⟩
        exact hk4 h6 vs ((f4.trans (f5'.less (by omega))).trans (Fm.upd hu6 (.inl (Nat.le_refl _)))) ((c4.still (f5'.less c4.nle) (f5.same r hr4 (by omega))).upd hu6 c.nle (by omega)) (ht6.frame fun b hb _ => ⟨by omega, rfl⟩)
    clear hd
    simp only [boolV_bool, bcase_true, bcase_false, need, Tryz.zero36, reads_not, reads_pick, Tryz.size36, Tryz.agg36, reads_eq, reads_nil, Tryz.fa57_3, addr_add, Tryz.agg3, Tryz.fa57_1, reads_klen hkid]
    refine bcase_of (fun hz => ?_) (fun hz => ?_)
    · have hts : ts = [] := List.length_eq_zero_iff.1 (by have := of_decide_eq_true hz; omega)
      subst hts
      simp only [List.isEmpty_nil, if_true] at hk4
      refine Join0.intro (fun h' => h' = h4 ∧ ¬ (isM l [41] p' = true ∧ op = 0)) ?_ ?_
      · refine Join1.intro (fun v h' => h' = h4 ∧ v = .bool (isM l [41] p' && decide (op = 0))) ?_ ?_
        · refine is_spec c4 (by simp) ?_
          simp only [boolV_bool, bcase_true, bcase_false, need, Tryz.zero36, reads_not, reads_pick, Tryz.size36, Tryz.agg36, reads_eq, reads_nil, Tryz.fa57_3, addr_add, Tryz.agg3, Tryz.fa57_1, c4.ld3, Nat.zero_add]
          refine bcase_of (fun hy => ⟨trivial, ?_⟩) (fun hn => ⟨trivial, ?_⟩)
          · rw [hy, Bool.true_and]; congr 1; by_cases ho : op = 0 <;> simp [ho]
          · rw [hn, Bool.false_and]
        · rintro w h5 ⟨rfl, rfl⟩
          simp only [boolV_bool, bcase_true, bcase_false, need, Tryz.zero36, reads_not, reads_pick, Tryz.size36, Tryz.agg36, reads_eq, reads_nil, Tryz.fa57_3, addr_add, Tryz.agg3, Tryz.fa57_1, c4.ld1, Nat.zero_add]
          refine bcase_of (fun hy => ?_) (fun hn => ⟨trivial, ?_⟩)
          · simp only [Bool.and_eq_true, decide_eq_true_eq] at hy
            rw [if_pos hy] at hk4
            exact fail_spec (code := 9) c4 (by omega) (by omega) fun e h' hf f => hk4 e h' (hf.more (by omega)) (f4.trans (f.less (by omega)))
          · rintro ⟨x, y⟩
            rw [x, y] at hn
            cases hn
      · rintro h5 ⟨rfl, hno⟩
        rw [if_neg hno] at hk4
        simp only [boolV_bool, bcase_true, bcase_false, need, Tryz.zero36, reads_not, reads_pick, Tryz.size36, Tryz.agg36, reads_eq, reads_nil, Tryz.fa57_3, addr_add, Tryz.agg3, Tryz.fa57_1, c4.ld1, Nat.zero_add]
        exact fail_spec (code := 3) c4 (by omega) (by omega) fun e h' hf f => hk4 e h' (hf.more (by omega)) (f4.trans (f.less (by omega)))
    · have hts : ts ≠ [] := by rintro rfl; simp at hz
      have hts' : ts.isEmpty = false := by cases ts <;> simp at hts ⊢
      simp only [hts', Bool.false_eq_true, if_false] at hk4
      refine joined_spec (kind := 4) hkid hs4 hts fun h5 vs f5 ht5 => ?_
      have s5 := f5.size
      refine ret_re (Q := fun b => h1.size ≤ b) ((f5.same h.size (by omega) (by omega)).trans hb) hcs (fun x hx => by omega) ht5 fun h6 hu6 ht6 => ?_
      have f5' : Fm h4.size r h4 h5 := ⟨f5.size, fun k hk _ => f5.same k hk (by omega)⟩
      exact hk4 h6 vs ((f4.trans (f5'.less (by omega))).trans (Fm.upd hu6 (.inl (Nat.le_refl _)))) ((c4.still (f5'.less c4.nle) (f5.same r hr4 (by omega))).upd hu6 c.nle (by omega)) (ht6.frame fun b hb _ => ⟨by omega, rfl⟩)
  · rw [if_neg hcond] at hk4
    have g1 : ¬ l.length ≤ p' := fun e => hcond (.inl e)
    have g2 : isM l [124] p' = false := by cases e : isM l [124] p' <;> simp [e] at hcond ⊢
    have g3 : isM l [41] p' = false := by cases e : isM l [41] p' <;> simp [e] at hcond ⊢
    refine Join0.intro (fun h' => h' = h4) ?_ ?_
    · refine done_spec c4 ?_
      simp only [reads_not, boolV_bool, decide_eq_false g1, Bool.not_false, bcase_true]
      refine is_spec c4 (by simp) ?_
      simp only [reads_not, boolV_bool, g2, Bool.not_false, bcase_true]
      refine is_spec c4 (by simp) ?_
      simp only [reads_not, boolV_bool, g3, Bool.not_false, bcase_true]
    · rintro h5 rfl
      refine hI j (by omega) he c4 (by omega) ?_
      cases hm : itemM j l p' op gr' with
      | out => rw [hm] at hk4; exact hk4.elim
      | bad a b => rw [hm] at hk4; exact fun e h3 hf f3 => hk4 e h3 (hf.more (by omega)) (f4.trans (f3.less (by omega)))
      | ok x =>
        obtain ⟨t, p2, gr2⟩ := x
        rw [hm] at hk4
        simp only at hk4
        intro h6 vs f6 c6 ht6
        have s6 := f6.size
        refine alloc_rule Tryz.zero36 fun h7 a7 => ?_
        have s7 := a7.size
        refine storeFull a7.at_ (xs := vs.toArray) (by rw [Tryz.size36]; simp [ht6.len]) (by simp [ht6.len, Value.cells]) (by simpa using ht6.flat) fun h8 hu8 => ?_
        have s8 := hu8.size
        refine load_all hu8.same (by rw [Tryz.agg36]; simp [ht6.len]) ?_
        have hap := hkid.apart (h' := h6) hs4 ht6
        have e8 : ∀ b, b < h6.size → h8[b]? = h6[b]? := fun b hb => (hu8.other b (by omega)).trans (a7.old b hb)
        have hkid8 : Kids h8 h1.size v ts := hkid.frame fun b h1 h2 => (e8 b (by omega)).trans (f6.same b h2 (by omega))
        refine push_kid hkid8 (hap.frame fun b hb hlt => ⟨hb, e8 b hlt⟩) (by omega) (by omega) fun v' h9 hk9 hf9 => ?_
        have s9 := (hf9 r).size
        refine ⟨j, by omega, ?_⟩
        rw [hInv]
        have c8 : Cx S n h8 r bv l p2 ext op gr2 := (c6.al a7).upd hu8 c6.nle (by have := c6.rlt; omega)
        have f9 : Fm h.size r h8 h9 := (hf9 r).less (by omega)
        refine ⟨ts ++ [t], p2, gr2, cs, by simp; omega, ((f4.trans (f6.less (by omega))).trans ((Fm.al a7 (by omega)).trans (Fm.upd hu8 (.inl (by omega))))).trans f9, by omega, c8.still (f9.less c.nle) ((hf9 h9.size).same r (by omega) (by have := c6.rlt; omega)), ?_, hcs, hk9, hk4⟩
        exact ((hf9 r).same h.size (by omega) (by omega)).trans ((e8 h.size (by omega)).trans ((f6.same h.size (by omega) (by omega)).trans hb))
end Rt
end Go.Proofs
