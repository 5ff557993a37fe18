/- A part of the proofs over this seat: Ext5. -/
import Derived.Test.YthlncmkeccgfeaaGreatDoorExt4
set_option linter.unusedVariables false
set_option linter.unusedSimpArgs false
set_option maxRecDepth 100000
namespace Go.Proofs
open Go.Vcg
namespace Rt
attribute [local congr] Reads.congr ReadsS.congr pLoad.congr pLoadS.congr pStore.congr Runs.congr CallsH.congr bcase.congr boolV.congr Stable.congr pAlloc.congr
variable {S : Glb} {n : Nat} {h : Heap} {r : Nat} {bv : Value} {l : List UInt8} {p : Nat} {ext : Bool} {op gr : Nat} {R : Value → Heap → Prop} {E : List PanicEntry → Heap → Prop}

theorem Kids.one {h' : Heap} {t : T} {vs : List Value} (a : Al h h' (.cells vs.toArray 36 (0, 0))) (hn : n ≤ h.size) (ht : IsRe h (fun b => n ≤ b) t vs) : Kids h' n (.slice (some ⟨h.size, 0, none⟩) 1 1) [t] := by
  refine ⟨vs, ⟨by simp [ht.len], .inr ⟨h.size, 1, vs.toArray, rfl, hn, a.at_, by simp, by simp [maxLen], by simp [ht.len], by simp [← ht.len]⟩⟩, ?_⟩
  rw [IsRow.one]
  exact ht.frame fun b hb hlt => ⟨⟨hb, by simp [Value.ownBlock]; omega⟩, a.old b hlt⟩

theorem branches_spec {k : Nat} (hB : ∀ i, i < k → BranchOk i) (hk0 : k ≤ 1000000) : BranchesOk k := by
  intro S n h r bv l p ext op gr R E he c hk
  cases k with
  | zero => unfold branchesM at hk; exact hk.elim
  | succ k =>
  unfold branchesM at hk
  refine C55 ?_
  unfold S55
  refine alloc_rule Tryz.zero36 fun h1 a1 => ?_
  have s1 := a1.size
  have c1 := c.al a1
  have hr := c.rlt
  have hl := c.len
  have f1 : Fm h.size r h h1 := Fm.al a1 (Nat.le_refl _)
  refine hB k (by omega) he c1 ?_
  cases hm : branchL k l [] p op gr with
  | out => rw [hm] at hk; exact hk.elim
  | bad a b => rw [hm] at hk; exact fun e h3 hf f3 => hk e h3 (hf.more (by omega)) (f1.trans (f3.less (by omega)))
  | ok x =>
  obtain ⟨t, p1, gr1⟩ := x
  rw [hm] at hk
  simp only at hk
  intro h2 vs f2 c2 ht
  have s2 := f2.size
  refine slice1_rule Tryz.info36 Tryz.underlying34 (by simp [Value.cells, ht.len]) (by omega) (by omega) fun h3 a3 => ?_
  have s3 := a3.size
  have Inv : ∃ Inv : Nat → Value → Heap → Prop, ∀ j v h', Inv j v h' ↔ ∃ (ts : List T) (p' gr' : Nat) (cs : Array Value), j + ts.length ≤ k + 1 ∧ ts ≠ [] ∧ Fm h.size r h h' ∧ h1.size ≤ h'.size ∧ Cx S n h' r bv l p' ext op gr' ∧ h'[h.size]? = some (.cells cs 36 (0, 0)) ∧ cs.size = 9 ∧
      Kids h' h1.size v ts ∧ Owes S n h r bv l ext op (altL j l ts p' op gr') R E := ⟨_, fun _ _ _ => Iff.rfl⟩
  obtain ⟨Inv, hInv⟩ := Inv
  refine Loop1.fuel Inv (n := k) ((hInv _ _ _).2 ⟨[t], p1, gr1, _, by simp, by simp, (f1.trans (f2.less (by omega))).trans (Fm.al a3 (by omega)), by omega, c2.al a3, (a3.old h.size (by omega)).trans ((f2.same h.size (by omega) (by omega)).trans a1.at_), rfl,
    Kids.one a3 (by omega) ht, hk⟩) fun j v h4 hi4 => ?_
  rw [hInv] at hi4
  obtain ⟨ts, p', gr', cs, hjk, hts, f4, hs4, c4, hb, hcs, hkid, hk4⟩ := hi4
  have s4 := f4.size
  have hr4 := c4.rlt
  cases j with
  | zero => unfold altL at hk4; exact hk4.elim
  | succ j =>
  unfold altL at hk4
  refine take_spec c4 (by simp) (fun hy h5 f5 c5 => ?_) (fun hn => ?_)
  · rw [if_pos hy] at hk4
    have s5 := f5.size
    have hkid5 := hkid.fm f5 (by omega)
    simp only [boolV_bool, bcase_true]
    refine hB j (by omega) he c5 ?_
    simp only [List.length_cons, List.length_nil, Nat.zero_add]
    cases hm2 : branchL j l [] (p' + 1) op gr' with
    | out => rw [hm2] at hk4; exact hk4.elim
    | bad a b => rw [hm2] at hk4; exact fun e h6 hf f6 => hk4 e h6 (hf.more (by omega)) ((f4.trans (f5.less (by omega))).trans (f6.less (by omega)))
    | ok x =>
      obtain ⟨u, p2, gr2⟩ := x
      rw [hm2] at hk4
      simp only at hk4
      intro h6 ws f6 c6 ht6
      have s6 := f6.size
      have hap := hkid5.apart (h' := h6) (by omega) ht6
      refine push_kid (hkid5.fm f6 (by omega)) hap (by omega) (by omega) fun v' h9 hk9 hf9 => ?_
      have s9 := (hf9 r).size
      refine ⟨j, by omega, ?_⟩
      rw [hInv]
      refine ⟨ts ++ [u], p2, gr2, cs, by simp; omega, by simp, ((f4.trans (f5.less (by omega))).trans (f6.less (by omega))).trans ((hf9 r).less (by omega)), by omega, c6.still ((hf9 r).less (by have := c.nle; omega)) ((hf9 h9.size).same r (by omega) (by have := c6.rlt; omega)), ?_, hcs, hk9, hk4⟩
      exact ((hf9 r).same h.size (by omega) (by omega)).trans ((f6.same h.size (by omega) (by omega)).trans ((f5.same h.size (by omega) (by omega)).trans hb))
  · rw [if_neg (by simp [hn])] at hk4
    simp only [boolV_bool, bcase_false]
    refine joined_spec (kind := 5) hkid hs4 hts fun h5 vs f5 ht5 => ?_
    have s5 := f5.size
    refine ret_re (Q := fun b => h1.size ≤ b) ((f5.same h.size (by omega) (by omega)).trans hb) hcs (fun x hx => by omega) ht5 fun h6 hu6 ht6 => ?_
    have f5' : Fm h4.size r h4 h5 := ⟨f5.size, fun k hk _ => f5.same k hk (by omega)⟩
    exact hk4 h6 vs ((f4.trans (f5'.less (by omega))).trans (Fm.upd hu6 (.inl (Nat.le_refl _)))) ((c4.still (f5'.less c4.nle) (f5.same r hr4 (by omega))).upd hu6 c.nle (by omega)) (ht6.frame fun b hb _ => ⟨by omega, rfl⟩)

theorem all_spec : ∀ k, k ≤ 1000000 → BranchesOk k ∧ ItemOk k ∧ BranchOk k := by
  intro k
  induction k using Nat.strongRecOn with
  | _ k ih =>
    intro hk
    refine ⟨branches_spec (fun i hi => (ih i hi (by omega)).2.2) hk, ?_, branch_spec (fun i hi => (ih i hi (by omega)).2.1) hk⟩
    cases k with
    | zero =>
      intro S n h r bv l p ext op gr R E he c hp hk
      unfold itemM at hk
      exact hk.elim
    | succ k => exact item_spec (ih k (by omega) (by omega)).1
end Rt
end Go.Proofs
