/- A part of the proofs over this seat: Ext5. -/
import Derived.Test.YthlncmkeccgfeaaGreatDoorExt2
set_option linter.unusedVariables false
set_option linter.unusedSimpArgs false
set_option maxRecDepth 100000
namespace Go.Proofs
open Go.Vcg
namespace Rt
attribute [local congr] Reads.congr ReadsS.congr pLoad.congr pLoadS.congr pStore.congr Runs.congr CallsH.congr bcase.congr boolV.congr Stable.congr pAlloc.congr
variable {S : Glb} {n : Nat} {h : Heap} {r : Nat} {bv : Value} {l : List UInt8} {p : Nat} {ext : Bool} {op gr : Nat} {R : Value → Heap → Prop} {E : List PanicEntry → Heap → Prop}

def BranchesOk (k : Nat) : Prop := ∀ {S : Glb} {n : Nat} {h : Heap} {r : Nat} {bv : Value} {l : List UInt8} {p : Nat} {ext : Bool} {op gr : Nat} {R : Value → Heap → Prop} {E : List PanicEntry → Heap → Prop},
  ext = true → Cx S n h r bv l p ext op gr → Owes S n h r bv l ext op (branchesM k l p op gr) R E → CallsH Tryz.prog 55 #[ptr r] h R E
def ItemOk (k : Nat) : Prop := ∀ {S : Glb} {n : Nat} {h : Heap} {r : Nat} {bv : Value} {l : List UInt8} {p : Nat} {ext : Bool} {op gr : Nat} {R : Value → Heap → Prop} {E : List PanicEntry → Heap → Prop},
  ext = true → Cx S n h r bv l p ext op gr → p < l.length → Owes S n h r bv l ext op (itemM k l p op gr) R E → CallsH Tryz.prog 104 #[ptr r] h R E
def BranchOk (k : Nat) : Prop := ∀ {S : Glb} {n : Nat} {h : Heap} {r : Nat} {bv : Value} {l : List UInt8} {p : Nat} {ext : Bool} {op gr : Nat} {R : Value → Heap → Prop} {E : List PanicEntry → Heap → Prop},
  ext = true → Cx S n h r bv l p ext op gr → Owes S n h r bv l ext op (branchL k l [] p op gr) R E → CallsH Tryz.prog 78 #[ptr r] h R E

/-- a caller's debt at a later heap -/
theorem Owes.later {h' : Heap} {m : Res (T × Nat × Nat)} (hk : Owes S n h r bv l ext op m R E) (f : Fm h.size r h h') : Owes S n h' r bv l ext op m R E := by
  cases m with
  | out => exact hk
  | bad a b => exact fun c h2 hf f2 => hk c h2 (hf.more f.size) (f.trans (f2.less f.size))
  | ok x =>
    obtain ⟨t, p', gr'⟩ := x
    exact fun h2 vs f2 c2 ht => hk h2 vs (f.trans (f2.less f.size)) c2 (ht.frame fun b hb _ => ⟨Nat.le_trans f.size hb, rfl⟩)

theorem item_spec {k : Nat} (hB : BranchesOk k) : ItemOk (k + 1) := by
  intro S n h r bv l p ext op gr R E he c hp hk
  refine C104 ?_
  unfold S104
  refine alloc_rule Tryz.zero36 fun h1 a1 => ?_
  have s1 := a1.size
  have c1 := c.al a1
  have hr := c.rlt
  have hl := c.len
  simp only [boolV_bool, bcase_true, bcase_false, need, Tryz.zero36, reads_nil, Tryz.fa57_1, addr_add, Tryz.agg3, Tryz.size36, reads_mkfunc, Tryz.bd36_0_1, reads_add, Tryz.size3, Tryz.fa57_0, Tryz.agg29, Tryz.agg5, Tryz.agg36, c1.ld1, Nat.zero_add]
  refine alloc_rule Tryz.zero36 fun h2 a2 => ?_
  have s2 := a2.size
  have c2 := c1.al a2
  have b2 := (a2.old h.size (by omega)).trans a1.at_
  have f2 : Fm h.size r h h2 := (Fm.al a1 (Nat.le_refl _)).trans (Fm.al a2 (by omega))
  -- a result that is given back at once
  have back : ∀ {m : Res (T × Nat × Nat)} {h' : Heap}, Owes S n h r bv l ext op m R E → Fm h2.size r h2 h' →
      Owes S n h' r bv l ext op m (fun v h'' => pStore Tryz.prog 36 (.pointer (some ⟨h.size, 0, none⟩)) v h'' fun h7 => pLoad Tryz.prog 36 (.pointer (some ⟨h.size, 0, none⟩)) h7 fun r4 => R r4 h7) E := by
    intro m h' hk f
    have sf := f.size
    cases m with
    | out => exact hk
    | bad a b => exact fun e h3 hf f3 => hk e h3 (hf.more (by omega)) ((f2.trans (f.less (by omega))).trans (f3.less (by omega)))
    | ok x =>
      obtain ⟨t, p', gr'⟩ := x
      intro h3 vs f3 c3 ht
      have s3 := f3.size
      refine ret_re (Q := fun b => h'.size ≤ b) ((f3.same h.size (by omega) (by omega)).trans ((f.same h.size (by omega) (by omega)).trans b2)) rfl (fun x hx => by omega) ht fun h4 hu ht4 => ?_
      exact hk h4 vs (((f2.trans (f.less (by omega))).trans (f3.less (by omega))).trans (Fm.upd hu (.inl (Nat.le_refl _)))) (c3.upd hu c.nle (by omega)) (ht4.frame fun b hb _ => ⟨by omega, rfl⟩)
  -- the state ahead of the signs of how often
  have Inv : ∃ Inv : Nat → Heap → Prop, ∀ j h', Inv j h' ↔ ∃ (t : T) (vs : List Value) (p' gr' : Nat) (cs : Array Value), Fm h.size r h h' ∧ Cx S n h' r bv l p' ext op gr' ∧ h'[h.size]? = some (.cells cs 36 (0, 0)) ∧ cs.size = 9 ∧
      h'[h1.size]? = some (.cells vs.toArray 36 (0, 0)) ∧ IsRe h' (fun b => h1.size < b) t vs ∧ Owes S n h r bv l ext op ((timesLM j l t p').with gr') R E := ⟨_, fun _ _ => Iff.rfl⟩
  obtain ⟨Inv, hInv⟩ := Inv
  have put4 : ∀ {m : Res (T × Nat × Nat)} {h' : Heap}, Owes S n h r bv l ext op (thenTimes k l m) R E → Fm h2.size r h2 h' →
      Owes S n h' r bv l ext op m (fun v h'' => pStore Tryz.prog 36 (.pointer (some ⟨h1.size, 0, none⟩)) v h'' fun h3 => Inv k h3) E := by
    intro m h' hk f
    have sf := f.size
    cases m with
    | out => exact hk
    | bad a b => exact fun e h3 hf f3 => hk e h3 (hf.more (by omega)) ((f2.trans (f.less (by omega))).trans (f3.less (by omega)))
    | ok x =>
      obtain ⟨t, p', gr'⟩ := x
      intro h3 vs f3 c3 ht
      have s3 := f3.size
      have hr3 := c3.rlt
      refine storeFull ((f3.same h1.size (by omega) (by omega)).trans ((f.same h1.size (by omega) (by omega)).trans a2.at_)) (xs := vs.toArray) (by rw [Tryz.size36]; simp [ht.len]) (by simp [ht.len, Value.cells]) (by simpa using ht.flat) fun h4 hu => ?_
      rw [hInv]
      refine ⟨t, vs, p', gr', _, ((f2.trans (f.less (by omega))).trans (f3.less (by omega))).trans (Fm.upd hu (.inl (by omega))), c3.upd hu (by have := c.nle; omega) (by omega), (hu.other h.size (by omega)).trans ((f3.same h.size (by omega) (by omega)).trans ((f.same h.size (by omega) (by omega)).trans b2)), rfl, hu.same, ?_, hk⟩
      exact ht.frame fun b hb _ => ⟨by omega, hu.other b (by omega)⟩
  unfold itemM at hk
  have f0 : Fm h2.size r h2 h2 := Fm.refl ..
  refine Join0.intro (fun h' => Inv k h') ?_ ?_
  · refine times_spec c2 ?_
    simp only [boolV_bool, bcase_true, bcase_false, need, Tryz.zero36, reads_nil, Tryz.fa57_1, addr_add, Tryz.agg3, Tryz.size36, reads_mkfunc, Tryz.bd36_0_1, reads_add, Tryz.size3, Tryz.fa57_0, Tryz.agg29, Tryz.agg5, Tryz.agg36, c2.ld1, Nat.zero_add]
    refine bcase_of (fun hc => ?_) (fun hc => ?_)
    · rw [if_pos hc] at hk
      exact fail_spec (code := 3) c2 (by omega) (by omega) fun e h' hf f => hk e h' (hf.more (by omega)) (f2.trans (f.less (by omega)))
    rw [if_neg (by simp [hc])] at hk
    refine take_spec c2 (by simp) (fun hy h3 f3 c3 => ?_) (fun hn => ?_)
    · rw [if_pos hy] at hk
      simp only [boolV_bool, bcase_true]
      exact anchor_spec (kind := 2) c3 (back hk f3)
    simp only [boolV_bool, bcase_false]
    rw [if_neg (by simp [hn])] at hk
    refine take_spec c2 (by simp) (fun hy h3 f3 c3 => ?_) (fun hn => ?_)
    · rw [if_pos hy] at hk
      simp only [boolV_bool, bcase_true]
      exact anchor_spec (kind := 3) c3 (back hk f3)
    simp only [boolV_bool, bcase_false]
    rw [if_neg (by simp [hn])] at hk
    refine take_spec c2 (by simp) (fun hy h3 f3 c3 => ?_) (fun hn => ?_)
    · rw [if_pos hy] at hk
      simp only [boolV_bool, bcase_true, reads_mkfunc]
      exact group_spec Tryz.func55 (by kernel_rfl) rfl c3 (by simp) (fun c o => hB he c o) (put4 hk f3)
    simp only [boolV_bool, bcase_false]
    rw [if_neg (by simp [hn])] at hk
    refine is_spec c2 (by simp) ?_
    simp only [boolV_bool]
    refine bcase_of (fun hy => ?_) (fun hn => ?_)
    · rw [if_pos hy] at hk
      exact esc_spec c2 hp (put4 hk f0)
    rw [if_neg (by simp [hn])] at hk
    refine take_spec c2 (by simp) (fun hy h3 f3 c3 => ?_) (fun hn => ?_)
    · rw [if_pos hy] at hk
      simp only [boolV_bool, bcase_true]
      have s3 := f3.size
      have hr3 := c3.rlt
      refine any_spec fun h4 f4 => ?_
      rw [show Value.agg anyW.vals.toArray = .agg #[.int .u64 anyW.a, .int .u64 anyW.b, .int .u64 anyW.c, .int .u64 anyW.d] from rfl, Tryz.bd36_0_1]
      have f4' : Fm h3.size r h3 h4 := ⟨f4.size, fun k hk _ => f4.same k hk (by omega)⟩
      exact put4 (m := .ok (.node 1 anyW 0 0 0 [], p + 1, gr)) hk f3 h4 _ f4' (c3.still (f4'.less c3.nle) (f4.same r hr3 (by omega))) IsRe.leaf
    simp only [boolV_bool, bcase_false]
    rw [if_neg (by simp [hn])] at hk
    refine take_spec c2 (by simp) (fun hy h3 f3 c3 => ?_) (fun hn => ?_)
    · rw [if_pos hy] at hk
      simp only [boolV_bool, bcase_true]
      subst he
      exact bracket_spec c3 (put4 hk f3)
    simp only [boolV_bool, bcase_false]
    rw [if_neg (by simp [hn]), List.getElem?_eq_getElem hp] at hk
    simp only [boolV_bool, bcase_true, bcase_false, need, Tryz.zero36, reads_nil, Tryz.fa57_1, addr_add, Tryz.agg3, Tryz.size36, reads_mkfunc, Tryz.bd36_0_1, reads_add, Tryz.size3, Tryz.fa57_0, Tryz.agg29, Tryz.agg5, Tryz.agg36, c2.ld1, Nat.zero_add, wrap_n1 p (by omega)]
    refine store1 c2.rd Tryz.size3 rfl (by simp) fun h3 hu3 => ?_
    obtain ⟨f3, c3⟩ := c2.at_ (p' := p + 1) hu3 (by omega)
    have hr2 := c2.rlt
    simp only [boolV_bool, bcase_true, bcase_false, need, Tryz.zero36, reads_nil, Tryz.fa57_1, addr_add, Tryz.agg3, Tryz.size36, reads_mkfunc, Tryz.bd36_0_1, reads_add, Tryz.size3, Tryz.fa57_0, Tryz.agg29, Tryz.agg5, Tryz.agg36, c3.ld0, Nat.zero_add]
    refine idx_load c3.by_ Tryz.underlying29 Tryz.size5 Tryz.agg5 hp ?_
    refine single_spec fun h4 f4 => ?_
    have f4' : Fm h3.size r h3 h4 := ⟨f4.size, fun k hk _ => f4.same k hk (by omega)⟩
    exact put4 (m := .ok (single l[p], p + 1, gr)) hk f3 h4 _ f4' (c3.still (f4'.less c3.nle) (f4.same r (by have := c3.rlt; omega) (by have := c3.rlt; omega))) IsRe.leaf
  · intro h3 hi3
    refine Loop0.fuel Inv hi3 fun j h4 hi4 => ?_
    rw [hInv] at hi4
    obtain ⟨t, vs, p', gr', cs, f4, c4, hb, hcs, hv, ht, hk4⟩ := hi4
    have s4 := f4.size
    have hr4 := c4.rlt
    have hlt4 := at_lt hv
    cases j with
    | zero => exact hk4.elim
    | succ j =>
    unfold timesLM at hk4
    -- one sign more
    have again : ∀ {mn mx : Int} {h5 : Heap}, Fm h4.size r h4 h5 → Cx S n h5 r bv l (p' + 1) ext op gr' → Owes S n h r bv l ext op ((timesLM j l (repM t mn mx) (p' + 1)).with gr') R E →
        pLoad Tryz.prog 36 (.pointer (some ⟨h1.size, 0, none⟩)) h5 fun x => CallsH Tryz.prog 83 #[x, .int .i64 mn, .int .i64 mx] h5 (fun y h6 => pStore Tryz.prog 36 (.pointer (some ⟨h1.size, 0, none⟩)) y h6 fun h7 => ∃ i, i < j + 1 ∧ Inv i h7) E := by
      intro mn mx h5 f5 c5 hk5
      have s5 := f5.size
      have e1 := (f5.same h1.size (by omega) (by omega)).trans hv
      refine load_all e1 (by rw [Tryz.agg36]; simp [ht.len]) ?_
      have ht5 : IsRe h5 (fun b => h1.size < b) t vs := ht.frame fun b hb hlt => ⟨hb, f5.same b hlt (by omega)⟩
      refine rep_spec ht5 fun h6 ws f6 ht6 => ?_
      have s6 := f6.size
      have hr5 := c5.rlt
      refine storeFull ((f6.same h1.size (by omega) (by omega)).trans e1) (xs := ws.toArray) (by rw [Tryz.size36]; simp [ht6.len]) (by simp [ht6.len, ht.len]) (by simpa using ht6.flat) fun h7 hu7 => ?_
      refine ⟨j, by omega, ?_⟩
      rw [hInv]
      have f6' : Fm h5.size r h5 h6 := ⟨f6.size, fun k hk _ => f6.same k hk (by omega)⟩
      have c6 : Cx S n h6 r bv l (p' + 1) ext op gr' := c5.still (f6'.less c5.nle) (f6.same r hr5 (by omega))
      refine ⟨_, ws, p' + 1, gr', cs, ((f4.trans (f5.less (by omega))).trans (f6'.less (by omega))).trans (Fm.upd hu7 (.inl (by omega))), c6.upd hu7 (by have := c.nle; omega) (by omega), (hu7.other h.size (by omega)).trans ((f6.same h.size (by omega) (by omega)).trans ((f5.same h.size (by omega) (by omega)).trans hb)), hcs, hu7.same, ?_, hk5⟩
      exact ht6.frame fun b hb _ => ⟨by rcases hb with hb | hb <;> omega, hu7.other b (by rcases hb with hb | hb <;> omega)⟩
    refine times_spec c4 ?_
    simp only [boolV_bool, bcase_true, bcase_false, need, Tryz.zero36, reads_nil, Tryz.fa57_1, addr_add, Tryz.agg3, Tryz.size36, reads_mkfunc, Tryz.bd36_0_1, reads_add, Tryz.size3, Tryz.fa57_0, Tryz.agg29, Tryz.agg5, Tryz.agg36, c4.ld1, Nat.zero_add]
    refine bcase_of (fun hc => ?_) (fun hc => ?_)
    · refine take_spec c4 (by simp) (fun hy h5 f5 c5 => ?_) (fun hn1 => ?_)
      · rw [if_pos hy] at hk4
        simp only [boolV_bool, bcase_true]
        exact again f5 c5 hk4
      simp only [boolV_bool, bcase_false]
      rw [if_neg (by simp [hn1])] at hk4
      refine take_spec c4 (by simp) (fun hy h5 f5 c5 => ?_) (fun hn2 => ?_)
      · rw [if_pos hy] at hk4
        simp only [boolV_bool, bcase_true]
        exact again f5 c5 hk4
      simp only [boolV_bool, bcase_false]
      rw [if_neg (by simp [hn2])] at hk4
      refine take_spec c4 (by simp) (fun hy h5 f5 c5 => ?_) (fun hn3 => ?_)
      · rw [if_pos hy] at hk4
        simp only [boolV_bool, bcase_true]
        exact again f5 c5 hk4
      simp only [boolV_bool, bcase_false]
      rw [if_neg (by simp [hn3])] at hk4
      refine take_spec c4 (by simp) (fun hy h5 f5 c5 => ?_) (fun hn4 => ?_)
      · rw [if_pos hy] at hk4
        simp only [boolV_bool, bcase_true]
        have s5 := f5.size
        have e1 := (f5.same h1.size (by omega) (by omega)).trans hv
        refine load_all e1 (by rw [Tryz.agg36]; simp [ht.len]) ?_
        have ht5 : IsRe h5 (fun b => h1.size < b) t vs := ht.frame fun b hb hlt => ⟨hb, f5.same b hlt (by omega)⟩
        refine interval_spec (p := p' + 1) (frm := p') (shut := [125]) c5 ht5 (fun x hx => by omega) (by simp) ?_
        cases hm : intM l t p' [125] (p' + 1) with
        | out => rw [hm] at hk4; exact hk4.elim
        | bad a b =>
          rw [hm] at hk4
          exact fun e h6 hf f6 => hk4 e h6 (hf.more (by omega)) ((f4.trans (f5.less (by omega))).trans (f6.less (by omega)))
        | ok x =>
          rw [hm] at hk4
          obtain ⟨u, p2⟩ := x
          intro h6 ws f6 c6 ht6
          have s6 := f6.size
          have hr5 := c5.rlt
          refine storeFull ((f6.same h1.size (by omega) (by omega)).trans e1) (xs := ws.toArray) (by rw [Tryz.size36]; simp [ht6.len]) (by simp [ht6.len, ht.len]) (by simpa using ht6.flat) fun h7 hu7 => ?_
          refine ⟨j, by omega, ?_⟩
          rw [hInv]
          refine ⟨_, ws, p2, gr', cs, ((f4.trans (f5.less (by omega))).trans (f6.less (by omega))).trans (Fm.upd hu7 (.inl (by omega))), c6.upd hu7 (by have := c.nle; omega) (by omega), (hu7.other h.size (by omega)).trans ((f6.same h.size (by omega) (by omega)).trans ((f5.same h.size (by omega) (by omega)).trans hb)), hcs, hu7.same, ?_, hk4⟩
          exact ht6.frame fun b hb _ => ⟨by rcases hb with hb | hb <;> omega, hu7.other b (by rcases hb with hb | hb <;> omega)⟩
      · simp [timesM, hn1, hn2, hn3, hn4] at hc
    · have hall : isM l [42] p' = false ∧ isM l [43] p' = false ∧ isM l [63] p' = false ∧ isM l [123] p' = false := by
        unfold timesM at hc
        simp only [Bool.or_eq_false_iff] at hc
        exact ⟨hc.1.1.1, hc.1.1.2, hc.1.2, hc.2⟩
      rw [if_neg (by simp [hall.1]), if_neg (by simp [hall.2.1]), if_neg (by simp [hall.2.2.1]), if_neg (by simp [hall.2.2.2])] at hk4
      refine load_all hv (by rw [Tryz.agg36]; simp [ht.len]) ?_
      refine ret_re (Q := fun b => h1.size < b) hb hcs (fun x hx => by omega) ht fun h5 hu5 ht5 => ?_
      exact hk4 h5 vs (f4.trans (Fm.upd hu5 (.inl (Nat.le_refl _)))) (c4.upd hu5 c.nle (by omega)) (ht5.frame fun b hb _ => ⟨by omega, rfl⟩)
end Rt
end Go.Proofs

set_option maxRecDepth 100000
namespace Go.Proofs
open Go.Vcg
namespace Rt
attribute [local congr] Reads.congr ReadsS.congr pLoad.congr pLoadS.congr pStore.congr Runs.congr CallsH.congr bcase.congr boolV.congr Stable.congr pAlloc.congr
variable {S : Glb} {n : Nat} {h : Heap} {r : Nat} {bv : Value} {l : List UInt8} {p : Nat} {ext : Bool} {op gr : Nat} {R : Value → Heap → Prop} {E : List PanicEntry → Heap → Prop}

theorem reads_klen {v : Value} {ts : List T} {m : Nat} {K : Value → Prop} (k : Kids h m v ts) : Reads Tryz.prog (builtinS .len #[34] 3 #[v]) h K = K (.int .i64 ts.length) := by
  obtain ⟨xs, ⟨h1, h2⟩, h3⟩ := k
  rcases h2 with ⟨rfl, hz⟩ | ⟨g, cap, cur, rfl, _⟩
  · rw [reads_rlen Tryz.underlying34, hz]
  · rw [reads_rlen Tryz.underlying34]

theorem branch_spec {k : Nat} (hI : ∀ i, i < k → ItemOk i) (hk0 : k ≤ 1000000) : BranchOk k := by
  intro S n h r bv l p ext op gr R E he c hk
  refine C78 ?_
  unfold S78
  refine alloc_rule Tryz.zero36 fun h1 a1 => ?_
  have s1 := a1.size
  have c1 := c.al a1
  have hr := c.rlt
  have hl := c.len
  have f1 : Fm h.size r h h1 := Fm.al a1 (Nat.le_refl _)
  have Inv : ∃ Inv : Nat → Value → Heap → Prop, ∀ j v h', Inv j v h' ↔ ∃ (ts : List T) (p' gr' : Nat) (cs : Array Value), j + ts.length ≤ k ∧ Fm h.size r h h' ∧ h1.size ≤ h'.size ∧ Cx S n h' r bv l p' ext op gr' ∧ h'[h.size]? = some (.cells cs 36 (0, 0)) ∧ cs.size = 9 ∧
      Kids h' h1.size v ts ∧ Owes S n h r bv l ext op (branchL j l ts p' op gr') R E := ⟨_, fun _ _ _ => Iff.rfl⟩
  obtain ⟨Inv, hInv⟩ := Inv
  refine Loop1.fuel Inv (n := k) ((hInv _ _ _).2 ⟨[], p, gr, _, by simp, f1, Nat.le_refl _, c1, a1.at_, rfl, Kids.nil _ _, hk⟩) fun j v h4 hi4 => ?_
  rw [hInv] at hi4
  obtain ⟨ts, p', gr', cs, hjk, f4, hs4, c4, hb, hcs, hkid, hk4⟩ := hi4
  have s4 := f4.size
  have hr4 := c4.rlt
  have hp4 := c4.le
  cases j with
  | zero => unfold branchL at hk4; exact hk4.elim
  | succ j =>
  unfold branchL at hk4
  by_cases hcond : l.length ≤ p' ∨ isM l [124] p' = true ∨ isM l [41] p' = true
  · rw [if_pos hcond] at hk4
    refine Join0.intro (fun h' => False) ?_ (fun _ h => h.elim)
    refine done_spec c4 ?_
    simp only [reads_not, boolV_bool]
    refine bcase_of (fun hd => ?_) (fun hd => ?_)
    · refine is_spec c4 (by simp) ?_
      simp only [reads_not, boolV_bool]
      refine bcase_of (fun hd2 => ?_) (fun hd2 => ?_)
      · refine is_spec c4 (by simp) ?_
        simp only [reads_not, boolV_bool]
        refine bcase_of (fun hd3 => ?_) (fun hd3 => ?_)
        · have h1 : ¬ l.length ≤ p' := by simpa using hd
          have h2 : ¬ isM l [124] p' = true := by simpa using hd2
          have h3 : ¬ isM l [41] p' = true := by simpa using hd3
          exact absurd hcond (by simp [h1, h2, h3])
        clear hd hd2 hd3
        simp only [boolV_bool, bcase_true, bcase_false, need, Tryz.zero36, reads_not, reads_pick, Tryz.size36, Tryz.agg36, reads_eq, reads_nil, Tryz.fa57_3, addr_add, Tryz.agg3, Tryz.fa57_1, reads_klen hkid]
        refine bcase_of (fun hz => ?_) (fun hz => ?_)
        · have hts : ts = [] := List.length_eq_zero_iff.1 (by have := of_decide_eq_true hz; omega)
          subst hts
          simp only [List.isEmpty_nil, if_true] at hk4
          refine Join0.intro (fun h' => h' = h4 ∧ ¬ (isM l [41] p' = true ∧ op = 0)) ?_ ?_
          · refine Join1.intro (fun v h' => h' = h4 ∧ v = .bool (isM l [41] p' && decide (op = 0))) ?_ ?_
            · refine is_spec c4 (by simp) ?_
              simp only [boolV_bool, bcase_true, bcase_false, need, Tryz.zero36, reads_not, reads_pick, Tryz.size36, Tryz.agg36, reads_eq, reads_nil, Tryz.fa57_3, addr_add, Tryz.agg3, Tryz.fa57_1, c4.ld3, Nat.zero_add]
              refine bcase_of (fun hy => ⟨trivial, ?_⟩) (fun hn => ⟨trivial, ?_⟩)
              · rw [hy, Bool.true_and]; congr 1; by_cases ho : op = 0 <;> simp [ho]
              · rw [hn, Bool.false_and]
            · rintro w h5 ⟨rfl, rfl⟩
              simp only [boolV_bool, bcase_true, bcase_false, need, Tryz.zero36, reads_not, reads_pick, Tryz.size36, Tryz.agg36, reads_eq, reads_nil, Tryz.fa57_3, addr_add, Tryz.agg3, Tryz.fa57_1, c4.ld1, Nat.zero_add]
              refine bcase_of (fun hy => ?_) (fun hn => ⟨trivial, ?_⟩)
              · simp only [Bool.and_eq_true, decide_eq_true_eq] at hy
                rw [if_pos hy] at hk4
                exact fail_spec (code := 9) c4 (by omega) (by omega) fun e h' hf f => hk4 e h' (hf.more (by omega)) (f4.trans (f.less (by omega)))
              · rintro ⟨x, y⟩
                rw [x, y] at hn
                cases hn
          · rintro h5 ⟨rfl, hno⟩
            rw [if_neg hno] at hk4
            simp only [boolV_bool, bcase_true, bcase_false, need, Tryz.zero36, reads_not, reads_pick, Tryz.size36, Tryz.agg36, reads_eq, reads_nil, Tryz.fa57_3, addr_add, Tryz.agg3, Tryz.fa57_1, c4.ld1, Nat.zero_add]
            exact fail_spec (code := 3) c4 (by omega) (by omega) fun e h' hf f => hk4 e h' (hf.more (by omega)) (f4.trans (f.less (by omega)))
        · have hts : ts ≠ [] := by rintro rfl; simp at hz
          have hts' : ts.isEmpty = false := by cases ts <;> simp at hts ⊢
          simp only [hts', Bool.false_eq_true, if_false] at hk4
          refine joined_spec (kind := 4) hkid hs4 hts fun h5 vs f5 ht5 => ?_
          have s5 := f5.size
          refine ret_re (Q := fun b => h1.size ≤ b) ((f5.same h.size (by omega) (by omega)).trans hb) hcs (fun x hx => by omega) ht5 fun h6 hu6 ht6 => ?_
          have f5' : Fm h4.size r h4 h5 := ⟨f5.size, fun k hk _ => f5.same k hk (by omega)⟩
          exact hk4 h6 vs ((f4.trans (f5'.less (by omega))).trans (Fm.upd hu6 (.inl (Nat.le_refl _)))) ((c4.still (f5'.less c4.nle) (f5.same r hr4 (by omega))).upd hu6 c.nle (by omega)) (ht6.frame fun b hb _ => ⟨by omega, rfl⟩)
      clear hd hd2
      simp only [boolV_bool, bcase_true, bcase_false, need, Tryz.zero36, reads_not, reads_pick, Tryz.size36, Tryz.agg36, reads_eq, reads_nil, Tryz.fa57_3, addr_add, Tryz.agg3, Tryz.fa57_1, reads_klen hkid]
      refine bcase_of (fun hz => ?_) (fun hz => ?_)
      · have hts : ts = [] := List.length_eq_zero_iff.1 (by have := of_decide_eq_true hz; omega)
        subst hts
        simp only [List.isEmpty_nil, if_true] at hk4
        refine Join0.intro (fun h' => h' = h4 ∧ ¬ (isM l [41] p' = true ∧ op = 0)) ?_ ?_
        · refine Join1.intro (fun v h' => h' = h4 ∧ v = .bool (isM l [41] p' && decide (op = 0))) ?_ ?_
          · refine is_spec c4 (by simp) ?_
            simp only [boolV_bool, bcase_true, bcase_false, need, Tryz.zero36, reads_not, reads_pick, Tryz.size36, Tryz.agg36, reads_eq, reads_nil, Tryz.fa57_3, addr_add, Tryz.agg3, Tryz.fa57_1, c4.ld3, Nat.zero_add]
            refine bcase_of (fun hy => ⟨trivial, ?_⟩) (fun hn => ⟨trivial, ?_⟩)
            · rw [hy, Bool.true_and]; congr 1; by_cases ho : op = 0 <;> simp [ho]
            · rw [hn, Bool.false_and]
          · rintro w h5 ⟨rfl, rfl⟩
            simp only [boolV_bool, bcase_true, bcase_false, need, Tryz.zero36, reads_not, reads_pick, Tryz.size36, Tryz.agg36, reads_eq, reads_nil, Tryz.fa57_3, addr_add, Tryz.agg3, Tryz.fa57_1, c4.ld1, Nat.zero_add]
            refine bcase_of (fun hy => ?_) (fun hn => ⟨trivial, ?_⟩)
            · simp only [Bool.and_eq_true, decide_eq_true_eq] at hy
              rw [if_pos hy] at hk4
              exact fail_spec (code := 9) c4 (by omega) (by omega) fun e h' hf f => hk4 e h' (hf.more (by omega)) (f4.trans (f.less (by omega)))
            · rintro ⟨x, y⟩
              rw [x, y] at hn
              cases hn
        · rintro h5 ⟨rfl, hno⟩
          rw [if_neg hno] at hk4
          simp only [boolV_bool, bcase_true, bcase_false, need, Tryz.zero36, reads_not, reads_pick, Tryz.size36, Tryz.agg36, reads_eq, reads_nil, Tryz.fa57_3, addr_add, Tryz.agg3, Tryz.fa57_1, c4.ld1, Nat.zero_add]
          exact fail_spec (code := 3) c4 (by omega) (by omega) fun e h' hf f => hk4 e h' (hf.more (by omega)) (f4.trans (f.less (by omega)))
      · have hts : ts ≠ [] := by rintro rfl; simp at hz
        have hts' : ts.isEmpty = false := by cases ts <;> simp at hts ⊢
        simp only [hts', Bool.false_eq_true, if_false] at hk4
        refine joined_spec (kind := 4) hkid hs4 hts fun h5 vs f5 ht5 => ?_
        have s5 := f5.size
        refine ret_re (Q := fun b => h1.size ≤ b) ((f5.same h.size (by omega) (by omega)).trans hb) hcs (fun x hx => by omega) ht5 fun h6 hu6 ht6 => ?_
        have f5' : Fm h4.size r h4 h5 := ⟨f5.size, fun k hk _ => f5.same k hk (by omega)⟩
        exact hk4 h6 vs ((f4.trans (f5'.less (by omega))).trans (Fm.upd hu6 (.inl (Nat.le_refl _)))) ((c4.still (f5'.less c4.nle) (f5.same r hr4 (by omega))).upd hu6 c.nle (by omega)) (ht6.frame fun b hb _ => ⟨by omega, rfl⟩)
    clear hd
    simp only [boolV_bool, bcase_true, bcase_false, need, Tryz.zero36, reads_not, reads_pick, Tryz.size36, Tryz.agg36, reads_eq, reads_nil, Tryz.fa57_3, addr_add, Tryz.agg3, Tryz.fa57_1, reads_klen hkid]
    refine bcase_of (fun hz => ?_) (fun hz => ?_)
    · have hts : ts = [] := List.length_eq_zero_iff.1 (by have := of_decide_eq_true hz; omega)
      subst hts
      simp only [List.isEmpty_nil, if_true] at hk4
      refine Join0.intro (fun h' => h' = h4 ∧ ¬ (isM l [41] p' = true ∧ op = 0)) ?_ ?_
      · refine Join1.intro (fun v h' => h' = h4 ∧ v = .bool (isM l [41] p' && decide (op = 0))) ?_ ?_
        · refine is_spec c4 (by simp) ?_
          simp only [boolV_bool, bcase_true, bcase_false, need, Tryz.zero36, reads_not, reads_pick, Tryz.size36, Tryz.agg36, reads_eq, reads_nil, Tryz.fa57_3, addr_add, Tryz.agg3, Tryz.fa57_1, c4.ld3, Nat.zero_add]
          refine bcase_of (fun hy => ⟨trivial, ?_⟩) (fun hn => ⟨trivial, ?_⟩)
          · rw [hy, Bool.true_and]; congr 1; by_cases ho : op = 0 <;> simp [ho]
          · rw [hn, Bool.false_and]
        · rintro w h5 ⟨rfl, rfl⟩
          simp only [boolV_bool, bcase_true, bcase_false, need, Tryz.zero36, reads_not, reads_pick, Tryz.size36, Tryz.agg36, reads_eq, reads_nil, Tryz.fa57_3, addr_add, Tryz.agg3, Tryz.fa57_1, c4.ld1, Nat.zero_add]
          refine bcase_of (fun hy => ?_) (fun hn => ⟨trivial, ?_⟩)
          · simp only [Bool.and_eq_true, decide_eq_true_eq] at hy
            rw [if_pos hy] at hk4
            exact fail_spec (code := 9) c4 (by omega) (by omega) fun e h' hf f => hk4 e h' (hf.more (by omega)) (f4.trans (f.less (by omega)))
          · rintro ⟨x, y⟩
            rw [x, y] at hn
            cases hn
      · rintro h5 ⟨rfl, hno⟩
        rw [if_neg hno] at hk4
        simp only [boolV_bool, bcase_true, bcase_false, need, Tryz.zero36, reads_not, reads_pick, Tryz.size36, Tryz.agg36, reads_eq, reads_nil, Tryz.fa57_3, addr_add, Tryz.agg3, Tryz.fa57_1, c4.ld1, Nat.zero_add]
        exact fail_spec (code := 3) c4 (by omega) (by omega) fun e h' hf f => hk4 e h' (hf.more (by omega)) (f4.trans (f.less (by omega)))
    · have hts : ts ≠ [] := by rintro rfl; simp at hz
      have hts' : ts.isEmpty = false := by cases ts <;> simp at hts ⊢
      simp only [hts', Bool.false_eq_true, if_false] at hk4
      refine joined_spec (kind := 4) hkid hs4 hts fun h5 vs f5 ht5 => ?_
      have s5 := f5.size
      refine ret_re (Q := fun b => h1.size ≤ b) ((f5.same h.size (by omega) (by omega)).trans hb) hcs (fun x hx => by omega) ht5 fun h6 hu6 ht6 => ?_
      have f5' : Fm h4.size r h4 h5 := ⟨f5.size, fun k hk _ => f5.same k hk (by omega)⟩
      exact hk4 h6 vs ((f4.trans (f5'.less (by omega))).trans (Fm.upd hu6 (.inl (Nat.le_refl _)))) ((c4.still (f5'.less c4.nle) (f5.same r hr4 (by omega))).upd hu6 c.nle (by omega)) (ht6.frame fun b hb _ => ⟨by omega, rfl⟩)
  · rw [if_neg hcond] at hk4
    have g1 : ¬ l.length ≤ p' := fun e => hcond (.inl e)
    have g2 : isM l [124] p' = false := by cases e : isM l [124] p' <;> simp [e] at hcond ⊢
    have g3 : isM l [41] p' = false := by cases e : isM l [41] p' <;> simp [e] at hcond ⊢
    refine Join0.intro (fun h' => h' = h4) ?_ ?_
    · refine done_spec c4 ?_
      simp only [reads_not, boolV_bool, decide_eq_false g1, Bool.not_false, bcase_true]
      refine is_spec c4 (by simp) ?_
      simp only [reads_not, boolV_bool, g2, Bool.not_false, bcase_true]
      refine is_spec c4 (by simp) ?_
      simp only [reads_not, boolV_bool, g3, Bool.not_false, bcase_true]
    · rintro h5 rfl
      refine hI j (by omega) he c4 (by omega) ?_
      cases hm : itemM j l p' op gr' with
      | out => rw [hm] at hk4; exact hk4.elim
      | bad a b => rw [hm] at hk4; exact fun e h3 hf f3 => hk4 e h3 (hf.more (by omega)) (f4.trans (f3.less (by omega)))
      | ok x =>
        obtain ⟨t, p2, gr2⟩ := x
        rw [hm] at hk4
        simp only at hk4
        intro h6 vs f6 c6 ht6
        have s6 := f6.size
        refine alloc_rule Tryz.zero36 fun h7 a7 => ?_
        have s7 := a7.size
        refine storeFull a7.at_ (xs := vs.toArray) (by rw [Tryz.size36]; simp [ht6.len]) (by simp [ht6.len, Value.cells]) (by simpa using ht6.flat) fun h8 hu8 => ?_
        have s8 := hu8.size
        refine load_all hu8.same (by rw [Tryz.agg36]; simp [ht6.len]) ?_
        have hap := hkid.apart (h' := h6) hs4 ht6
        have e8 : ∀ b, b < h6.size → h8[b]? = h6[b]? := fun b hb => (hu8.other b (by omega)).trans (a7.old b hb)
        have hkid8 : Kids h8 h1.size v ts := hkid.frame fun b h1 h2 => (e8 b (by omega)).trans (f6.same b h2 (by omega))
        refine push_kid hkid8 (hap.frame fun b hb hlt => ⟨hb, e8 b hlt⟩) (by omega) (by omega) fun v' h9 hk9 hf9 => ?_
        have s9 := (hf9 r).size
        refine ⟨j, by omega, ?_⟩
        rw [hInv]
        have c8 : Cx S n h8 r bv l p2 ext op gr2 := (c6.al a7).upd hu8 c6.nle (by have := c6.rlt; omega)
        have f9 : Fm h.size r h8 h9 := (hf9 r).less (by omega)
        refine ⟨ts ++ [t], p2, gr2, cs, by simp; omega, ((f4.trans (f6.less (by omega))).trans ((Fm.al a7 (by omega)).trans (Fm.upd hu8 (.inl (by omega))))).trans f9, by omega, c8.still (f9.less c.nle) ((hf9 h9.size).same r (by omega) (by have := c6.rlt; omega)), ?_, hcs, hk9, hk4⟩
        exact ((hf9 r).same h.size (by omega) (by omega)).trans ((e8 h.size (by omega)).trans ((f6.same h.size (by omega) (by omega)).trans hb))
end Rt
end Go.Proofs

set_option maxRecDepth 100000
namespace Go.Proofs
open Go.Vcg
namespace Rt
attribute [local congr] Reads.congr ReadsS.congr pLoad.congr pLoadS.congr pStore.congr Runs.congr CallsH.congr bcase.congr boolV.congr Stable.congr pAlloc.congr
variable {S : Glb} {n : Nat} {h : Heap} {r : Nat} {bv : Value} {l : List UInt8} {p : Nat} {ext : Bool} {op gr : Nat} {R : Value → Heap → Prop} {E : List PanicEntry → Heap → Prop}

theorem Kids.one {h' : Heap} {t : T} {vs : List Value} (a : Al h h' (.cells vs.toArray 36 (0, 0))) (hn : n ≤ h.size) (ht : IsRe h (fun b => n ≤ b) t vs) : Kids h' n (.slice (some ⟨h.size, 0, none⟩) 1 1) [t] := by
  refine ⟨vs, ⟨by simp [ht.len], .inr ⟨h.size, 1, vs.toArray, rfl, hn, a.at_, by simp, by simp [maxLen], by simp [ht.len], by simp [← ht.len]⟩⟩, ?_⟩
  rw [IsRow.one]
  exact ht.frame fun b hb hlt => ⟨⟨hb, by simp [Value.ownBlock]; omega⟩, a.old b hlt⟩

theorem branches_spec {k : Nat} (hB : ∀ i, i < k → BranchOk i) (hk0 : k ≤ 1000000) : BranchesOk k := by
  intro S n h r bv l p ext op gr R E he c hk
  cases k with
  | zero => unfold branchesM at hk; exact hk.elim
  | succ k =>
  unfold branchesM at hk
  refine C55 ?_
  unfold S55
  refine alloc_rule Tryz.zero36 fun h1 a1 => ?_
  have s1 := a1.size
  have c1 := c.al a1
  have hr := c.rlt
  have hl := c.len
  have f1 : Fm h.size r h h1 := Fm.al a1 (Nat.le_refl _)
  refine hB k (by omega) he c1 ?_
  cases hm : branchL k l [] p op gr with
  | out => rw [hm] at hk; exact hk.elim
  | bad a b => rw [hm] at hk; exact fun e h3 hf f3 => hk e h3 (hf.more (by omega)) (f1.trans (f3.less (by omega)))
  | ok x =>
  obtain ⟨t, p1, gr1⟩ := x
  rw [hm] at hk
  simp only at hk
  intro h2 vs f2 c2 ht
  have s2 := f2.size
  refine slice1_rule Tryz.info36 Tryz.underlying34 (by simp [Value.cells, ht.len]) (by omega) (by omega) fun h3 a3 => ?_
  have s3 := a3.size
  have Inv : ∃ Inv : Nat → Value → Heap → Prop, ∀ j v h', Inv j v h' ↔ ∃ (ts : List T) (p' gr' : Nat) (cs : Array Value), j + ts.length ≤ k + 1 ∧ ts ≠ [] ∧ Fm h.size r h h' ∧ h1.size ≤ h'.size ∧ Cx S n h' r bv l p' ext op gr' ∧ h'[h.size]? = some (.cells cs 36 (0, 0)) ∧ cs.size = 9 ∧
      Kids h' h1.size v ts ∧ Owes S n h r bv l ext op (altL j l ts p' op gr') R E := ⟨_, fun _ _ _ => Iff.rfl⟩
  obtain ⟨Inv, hInv⟩ := Inv
  refine Loop1.fuel Inv (n := k) ((hInv _ _ _).2 ⟨[t], p1, gr1, _, by simp, by simp, (f1.trans (f2.less (by omega))).trans (Fm.al a3 (by omega)), by omega, c2.al a3, (a3.old h.size (by omega)).trans ((f2.same h.size (by omega) (by omega)).trans a1.at_), rfl,
    Kids.one a3 (by omega) ht, hk⟩) fun j v h4 hi4 => ?_
  rw [hInv] at hi4
  obtain ⟨ts, p', gr', cs, hjk, hts, f4, hs4, c4, hb, hcs, hkid, hk4⟩ := hi4
  have s4 := f4.size
  have hr4 := c4.rlt
  cases j with
  | zero => unfold altL at hk4; exact hk4.elim
  | succ j =>
  unfold altL at hk4
  refine take_spec c4 (by simp) (fun hy h5 f5 c5 => ?_) (fun hn => ?_)
  · rw [if_pos hy] at hk4
    have s5 := f5.size
    have hkid5 := hkid.fm f5 (by omega)
    simp only [boolV_bool, bcase_true]
    refine hB j (by omega) he c5 ?_
    simp only [List.length_cons, List.length_nil, Nat.zero_add]
    cases hm2 : branchL j l [] (p' + 1) op gr' with
    | out => rw [hm2] at hk4; exact hk4.elim
    | bad a b => rw [hm2] at hk4; exact fun e h6 hf f6 => hk4 e h6 (hf.more (by omega)) ((f4.trans (f5.less (by omega))).trans (f6.less (by omega)))
    | ok x =>
      obtain ⟨u, p2, gr2⟩ := x
      rw [hm2] at hk4
      simp only at hk4
      intro h6 ws f6 c6 ht6
      have s6 := f6.size
      have hap := hkid5.apart (h' := h6) (by omega) ht6
      refine push_kid (hkid5.fm f6 (by omega)) hap (by omega) (by omega) fun v' h9 hk9 hf9 => ?_
      have s9 := (hf9 r).size
      refine ⟨j, by omega, ?_⟩
      rw [hInv]
      refine ⟨ts ++ [u], p2, gr2, cs, by simp; omega, by simp, ((f4.trans (f5.less (by omega))).trans (f6.less (by omega))).trans ((hf9 r).less (by omega)), by omega, c6.still ((hf9 r).less (by have := c.nle; omega)) ((hf9 h9.size).same r (by omega) (by have := c6.rlt; omega)), ?_, hcs, hk9, hk4⟩
      exact ((hf9 r).same h.size (by omega) (by omega)).trans ((f6.same h.size (by omega) (by omega)).trans ((f5.same h.size (by omega) (by omega)).trans hb))
  · rw [if_neg (by simp [hn])] at hk4
    simp only [boolV_bool, bcase_false]
    refine joined_spec (kind := 5) hkid hs4 hts fun h5 vs f5 ht5 => ?_
    have s5 := f5.size
    refine ret_re (Q := fun b => h1.size ≤ b) ((f5.same h.size (by omega) (by omega)).trans hb) hcs (fun x hx => by omega) ht5 fun h6 hu6 ht6 => ?_
    have f5' : Fm h4.size r h4 h5 := ⟨f5.size, fun k hk _ => f5.same k hk (by omega)⟩
    exact hk4 h6 vs ((f4.trans (f5'.less (by omega))).trans (Fm.upd hu6 (.inl (Nat.le_refl _)))) ((c4.still (f5'.less c4.nle) (f5.same r hr4 (by omega))).upd hu6 c.nle (by omega)) (ht6.frame fun b hb _ => ⟨by omega, rfl⟩)

theorem all_spec : ∀ k, k ≤ 1000000 → BranchesOk k ∧ ItemOk k ∧ BranchOk k := by
  intro k
  induction k using Nat.strongRecOn with
  | _ k ih =>
    intro hk
    refine ⟨branches_spec (fun i hi => (ih i hi (by omega)).2.2) hk, ?_, branch_spec (fun i hi => (ih i hi (by omega)).2.1) hk⟩
    cases k with
    | zero =>
      intro S n h r bv l p ext op gr R E he c hp hk
      unfold itemM at hk
      exact hk.elim
    | succ k => exact item_spec (ih k (by omega) (by omega)).1
end Rt
end Go.Proofs
