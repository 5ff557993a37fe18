/- A part of the proofs over this seat: Who. -/
import Derived.Test.YthlncmkeccgfeaaGreatDoorBas
set_option linter.unusedVariables false
set_option linter.unusedSimpArgs false
set_option maxRecDepth 100000
namespace Go.Proofs
open Go.Vcg
namespace Rt
attribute [local congr] Reads.congr ReadsS.congr pLoad.congr pLoadS.congr pStore.congr Runs.congr CallsH.congr bcase.congr boolV.congr Stable.congr pAlloc.congr
variable {S : Glb} {n : Nat} {h : Heap} {r : Nat} {bv : Value} {l : List UInt8} {p : Nat} {ext : Bool} {op gr : Nat} {R : Value → Heap → Prop} {E : List PanicEntry → Heap → Prop}

def wholeM (k : Nat) (l : List UInt8) (ext : Bool) : Res (T × Nat × Nat) :=
  match (if ext then branchesM k l 0 0 0 else basicM k l 0 0 0) with
  | .ok (t, p, gr) => if l.length ≤ p then .ok (t, p, gr) else .bad 9 p
  | x => x
theorem whole_spec {k : Nat} (hk0 : k ≤ 1000000) (c : Cx S n h r bv l 0 ext 0 0) (hk : Owes S n h r bv l ext 0 (wholeM k l ext) R E) : CallsH Tryz.prog 31 #[ptr r] h R E := by
  refine C31 ?_
  unfold S31
  refine alloc_rule Tryz.zero36 fun h1 a1 => alloc_rule Tryz.zero36 fun h2 a2 => ?_
  have s1 := a1.size
  have s2 := a2.size
  have c1 := c.al a1
  have c2 := c1.al a2
  have hr := c.rlt
  have f2 : Fm h.size r h h2 := (Fm.al a1 (Nat.le_refl _)).trans (Fm.al a2 (by omega))
  have b2 := (a2.old h.size (by omega)).trans a1.at_
  unfold wholeM at hk
  have hJ : ∃ J : Heap → Prop, ∀ h3, J h3 ↔ ∃ (t : T) (vs : List Value) (p' gr' : Nat) (cs : Array Value), Fm h.size r h h3 ∧ Cx S n h3 r bv l p' ext 0 gr' ∧ h3[h.size]? = some (.cells cs 36 (0, 0)) ∧ cs.size = 9 ∧
        h3[h1.size]? = some (.cells vs.toArray 36 (0, 0)) ∧ IsRe h3 (fun b => h1.size < b) t vs ∧ Owes S n h r bv l ext 0 (if l.length ≤ p' then .ok (t, p', gr') else .bad 9 p') R E := ⟨_, fun _ => Iff.rfl⟩
  obtain ⟨J, hJ⟩ := hJ
  have put : ∀ {m : Res (T × Nat × Nat)}, Owes S n h r bv l ext 0 (match m with | .ok (t, p, gr) => if l.length ≤ p then .ok (t, p, gr) else .bad 9 p | x => x) R E →
      Owes S n h2 r bv l ext 0 m (fun v h'' => pStore Tryz.prog 36 (.pointer (some ⟨h1.size, 0, none⟩)) v h'' fun h3 => J h3) E := by
    intro m hk
    cases m with
    | out => exact hk
    | bad a b => exact fun e h3 hf f3 => hk e h3 (hf.more (by omega)) (f2.trans (f3.less (by omega)))
    | ok x =>
      obtain ⟨t, p', gr'⟩ := x
      intro h3 vs f3 c3 ht
      have s3 := f3.size
      have hr3 := c3.rlt
      refine storeFull ((f3.same h1.size (by omega) (by omega)).trans a2.at_) (xs := vs.toArray) (by rw [Tryz.size36]; simp [ht.len]) (by simp [ht.len, Value.cells]) (by simpa using ht.flat) fun h4 hu => ?_
      rw [hJ]
      exact ⟨t, vs, p', gr', _, (f2.trans (f3.less (by omega))).trans (Fm.upd hu (.inl (by omega))), c3.upd hu (by have := c.nle; omega) (by omega), (hu.other h.size (by omega)).trans ((f3.same h.size (by omega) (by omega)).trans b2), rfl, hu.same, ht.frame fun b hb _ => ⟨by omega, hu.other b (by omega)⟩, hk⟩
  refine Join0.intro J ?_ ?_
  · simp only [boolV_bool, bcase_true, bcase_false, need, Tryz.zero36, reads_nil, Tryz.fa57_2, addr_add, Tryz.agg4, Tryz.size36, reads_not, Tryz.fa57_1, Tryz.agg3, Tryz.agg36, c2.ld2, Nat.zero_add]
    refine bcase_of (fun he => ?_) (fun he => ?_)
    · subst he
      exact (all_spec k hk0).1 rfl c2 (put hk)
    · subst he
      exact (all_basic k hk0).1 rfl c2 (put hk)
  · intro h3 hj
    obtain ⟨t, vs, p', gr', cs, f3, c3, hb, hcs, hv, ht, hk3⟩ := (hJ _).1 hj
    have s3 := f3.size
    refine done_spec c3 ?_
    simp only [boolV_bool, bcase_true, bcase_false, need, Tryz.zero36, reads_nil, Tryz.fa57_2, addr_add, Tryz.agg4, Tryz.size36, reads_not, Tryz.fa57_1, Tryz.agg3, Tryz.agg36, c3.ld1, Nat.zero_add]
    refine bcase_of (fun hd => ?_) (fun hd => ?_)
    · rw [if_neg (by simpa using hd)] at hk3
      exact fail_spec (code := 9) c3 (by omega) (by omega) fun e h' hf f => hk3 e h' (hf.more (by omega)) (f3.trans (f.less (by omega)))
    · rw [if_pos (by simpa using hd)] at hk3
      refine load_all hv (by rw [Tryz.agg36]; simp [ht.len]) ?_
      refine ret_re (Q := fun b => h1.size < b) hb hcs (fun x hx => by omega) ht fun h5 hu5 ht5 => ?_
      exact hk3 h5 vs (f3.trans (Fm.upd hu5 (.inl (Nat.le_refl _)))) (c3.upd hu5 c.nle (by omega)) (ht5.frame fun b hb _ => ⟨by omega, rfl⟩)
end Rt
end Go.Proofs
