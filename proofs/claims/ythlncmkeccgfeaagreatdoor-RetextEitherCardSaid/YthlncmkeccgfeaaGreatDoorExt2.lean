/- A part of the proofs over this seat: Ext2. -/
import Derived.Test.YthlncmkeccgfeaaGreatDoorInt
set_option linter.unusedVariables false
set_option linter.unusedSimpArgs false
set_option maxRecDepth 100000
namespace Go.Proofs
open Go.Vcg
namespace Rt
attribute [local congr] Reads.congr ReadsS.congr pLoad.congr pLoadS.congr pStore.congr Runs.congr CallsH.congr bcase.congr boolV.congr Stable.congr pAlloc.congr
variable {S : Glb} {n : Nat} {h : Heap} {r : Nat} {bv : Value} {l : List UInt8} {p : Nat} {ext : Bool} {op gr : Nat} {R : Value → Heap → Prop} {E : List PanicEntry → Heap → Prop}

/-! ### What the extended grammar reads -/
def anchorM (l : List UInt8) (kind p : Nat) : Res (T × Nat) := if timesM l p then .bad 3 p else .ok (.node kind .zero 0 0 0 [], p)
def groupM (l : List UInt8) (start : Nat) (shut : List UInt8) (gr : Nat) (m : Res (T × Nat × Nat)) : Res (T × Nat × Nat) :=
  if gr = 9 then .bad 5 start else match m with
    | .ok (t, p', gr') => if isM l shut p' then .ok (.node 7 .zero 0 0 (gr + 1) [t], p' + shut.length, gr') else .bad 9 l.length
    | .bad a b => .bad a b
    | .out => .out
def timesLM : Nat → List UInt8 → T → Nat → Res (T × Nat)
  | 0, _, _, _ => .out
  | k + 1, l, e, p =>
    if isM l [42] p then timesLM k l (repM e 0 (-1)) (p + 1)
    else if isM l [43] p then timesLM k l (repM e 1 (-1)) (p + 1)
    else if isM l [63] p then timesLM k l (repM e 0 1) (p + 1)
    else if isM l [123] p then (match intM l e p [125] (p + 1) with | .ok x => timesLM k l x.1 x.2 | .bad a b => .bad a b | .out => .out)
    else .ok (e, p)
def extSigns : List UInt8 := [46, 91, 93, 40, 41, 42, 43, 63, 123, 125, 124, 94, 36, 47, 92]
def thenTimes (k : Nat) (l : List UInt8) (m : Res (T × Nat × Nat)) : Res (T × Nat × Nat) :=
  match m with
  | .ok (t, p', gr') => (timesLM k l t p').with gr'
  | x => x
mutual
def itemM : Nat → List UInt8 → Nat → Nat → Nat → Res (T × Nat × Nat)
  | 0, _, _, _, _ => .out
  | k + 1, l, p, op, gr =>
    if timesM l p then .bad 3 p
    else if isM l [94] p then (anchorM l 2 (p + 1)).with gr
    else if isM l [36] p then (anchorM l 3 (p + 1)).with gr
    else if isM l [40] p then thenTimes k l (groupM l p [41] gr (branchesM k l (p + 1) (op + 1) (gr + 1)))
    else if isM l [92] p then thenTimes k l ((escM l extSigns p).with gr)
    else if isM l [46] p then thenTimes k l (.ok (.node 1 anyW 0 0 0 [], p + 1, gr))
    else if isM l [91] p then thenTimes k l ((brkM true l (p + 1)).with gr)
    else match l[p]? with
      | some c => thenTimes k l (.ok (single c, p + 1, gr))
      | none => .out
def branchL : Nat → List UInt8 → List T → Nat → Nat → Nat → Res (T × Nat × Nat)
  | 0, _, _, _, _, _ => .out
  | k + 1, l, ts, p, op, gr =>
    if l.length ≤ p ∨ isM l [124] p ∨ isM l [41] p then
      if ts.isEmpty then (if isM l [41] p ∧ op = 0 then .bad 9 p else .bad 3 p) else .ok (joinM 4 ts, p, gr)
    else match itemM k l p op gr with
      | .ok (t, p', gr') => branchL k l (ts ++ [t]) p' op gr'
      | x => x
def altL : Nat → List UInt8 → List T → Nat → Nat → Nat → Res (T × Nat × Nat)
  | 0, _, _, _, _, _ => .out
  | k + 1, l, ts, p, op, gr =>
    if isM l [124] p then match branchL k l [] (p + 1) op gr with
      | .ok (t, p', gr') => altL k l (ts ++ [t]) p' op gr'
      | x => x
    else .ok (joinM 5 ts, p, gr)
def branchesM : Nat → List UInt8 → Nat → Nat → Nat → Res (T × Nat × Nat)
  | 0, _, _, _, _ => .out
  | k + 1, l, p, op, gr => match branchL k l [] p op gr with
    | .ok (t, p', gr') => altL k l [t] p' op gr'
    | x => x
end

theorem anchor_spec {kind : Nat} (c : Cx S n h r bv l p ext op gr) (hk : Owes S n h r bv l ext op ((anchorM l kind p).with gr) R E) : CallsH Tryz.prog 118 #[ptr r, .int .i64 kind] h R E := by
  refine C118 ?_
  unfold S118
  refine alloc_rule Tryz.zero36 fun h1 a1 => ?_
  have c1 := c.al a1
  have hr := c.rlt
  have f1 : Fm h.size r h h1 := Fm.al a1 (Nat.le_refl _)
  refine times_spec c1 ?_
  unfold anchorM at hk
  simp only [boolV_bool, bcase_true, bcase_false, need, Tryz.zero36, reads_nil, Tryz.fa57_1, addr_add, Tryz.agg3, Tryz.bd36_0, Tryz.size36, Tryz.agg36, c1.ld1, Nat.zero_add]
  refine bcase_of (fun hc => ?_) (fun hc => ?_)
  · rw [if_pos hc] at hk
    exact fail_spec (code := 3) c1 (by omega) (by omega) fun e h' hf f => hk e h' (hf.more (by rw [a1.size]; omega)) (f1.trans (f.less (by rw [a1.size]; omega)))
  · rw [if_neg (by simp [hc])] at hk
    refine ret_re (t := .node kind .zero 0 0 0 []) (vs := reL kind .zero 0 0 0 (.slice none 0 0)) (Q := fun _ => False) a1.at_ rfl (fun _ h => h.elim) IsRe.leaf fun h2 hu ht => ?_
    exact hk h2 _ (f1.trans (Fm.upd hu (.inl (Nat.le_refl _)))) (c1.upd hu c.nle (by omega)) (ht.frame fun b hb _ => hb.elim)

theorem runs_closure {f : FuncId} {K : Value → Heap → Prop} {fn : Func} {cd : Code} (hf : Tryz.prog.funcs[f]? = some fn) (hname : (fn.name == "runtime.NumGoroutine") = false) (hb : fn.body = some cd) {a : Array Value}
    (hk : CallsH Tryz.prog f a h K E) : Runs Tryz.prog (do let d ← Deferred.ofValue (.func (.func f) a #[]) #[]; invoke d.target d.args) h K E := by
  intro w hw
  subst hw
  have h1 : fn.name ≠ "runtime.NumGoroutine" := by simpa using hname
  have e : (callFunc f a).run Tryz.prog w = .ok (.enter f a) w := by simp [callFunc, hf, h1, hb]
  simp [Deferred.ofValue, invoke, e, uponH, Same.refl]
  exact hk

theorem group_spec {start : Nat} {shut : List UInt8} {f : FuncId} {m : Res (T × Nat × Nat)} {fn : Func} {cd : Code} (hf : Tryz.prog.funcs[f]? = some fn) (hname : (fn.name == "runtime.NumGoroutine") = false) (hb : fn.body = some cd)
    (c : Cx S n h r bv l p ext op gr) (hsh : shut.length ≤ 4294967296)
    (hread : ∀ {n : Nat} {h : Heap} {R : Value → Heap → Prop}, Cx S n h r bv l p ext (op + 1) (gr + 1) → Owes S n h r bv l ext (op + 1) m R E → CallsH Tryz.prog f #[ptr r] h R E)
    (hk : Owes S n h r bv l ext op (groupM l start shut gr m) R E) : CallsH Tryz.prog 105 #[ptr r, .int .i64 start, str shut, .func (.func f) #[ptr r] #[]] h R E := by
  refine C105 ?_
  unfold S105
  refine alloc_rule Tryz.zero36 fun h1 a1 => ?_
  have c1 := c.al a1
  have s1 := a1.size
  have hr := c.rlt
  have hl := c.len
  have hop := c.opg
  have hgr := c.g9
  have f1 : Fm h.size r h h1 := Fm.al a1 (Nat.le_refl _)
  unfold groupM at hk
  refine Join0.intro (fun h' => h' = h1 ∧ gr ≠ 9) ?_ ?_
  · simp only [boolV_bool, bcase_true, bcase_false, need, Tryz.zero36, reads_nil, Tryz.fa57_4, addr_add, Tryz.agg3, reads_eq, reads_add, Tryz.size3, Tryz.fa57_3, Tryz.size36, reads_not, Tryz.fa57_0, Tryz.agg29, reads_sub, Tryz.agg36, Tryz.bd36_0_4_5, c1.ld4, Nat.zero_add]
    refine bcase_of (fun hc => ?_) (fun hc => ⟨trivial, by have := of_decide_eq_false hc; omega⟩)
    have : gr = 9 := by have := of_decide_eq_true hc; omega
    rw [if_pos this] at hk
    exact fail_spec (code := 5) c1 (by omega) (by omega) fun e h' hf f => hk e h' (hf.more (by omega)) (f1.trans (f.less (by omega)))
  · rintro h2 ⟨rfl, h9⟩
    rw [if_neg h9] at hk
    simp only [boolV_bool, bcase_true, bcase_false, need, Tryz.zero36, reads_nil, Tryz.fa57_4, addr_add, Tryz.agg3, reads_eq, reads_add, Tryz.size3, Tryz.fa57_3, Tryz.size36, reads_not, Tryz.fa57_0, Tryz.agg29, reads_sub, Tryz.agg36, Tryz.bd36_0_4_5, c1.ld4, Nat.zero_add, wrap_n1 gr (by omega)]
    refine store1 c1.rd Tryz.size3 rfl (by simp) fun h3 hu3 => ?_
    have c3 : Cx S n h3 r bv l p ext op (gr + 1) := c1.on (Fm.upd hu3 (.inr rfl)) hu3.same c1.le (by omega) (by omega)
    simp only [boolV_bool, bcase_true, bcase_false, need, Tryz.zero36, reads_nil, Tryz.fa57_4, addr_add, Tryz.agg3, reads_eq, reads_add, Tryz.size3, Tryz.fa57_3, Tryz.size36, reads_not, Tryz.fa57_0, Tryz.agg29, reads_sub, Tryz.agg36, Tryz.bd36_0_4_5, c3.ld4, c3.ld3, Nat.zero_add, wrap_n1 op (by omega)]
    refine store1 c3.rd Tryz.size3 rfl (by simp) fun h4 hu4 => ?_
    have c4 : Cx S n h4 r bv l p ext (op + 1) (gr + 1) := c3.on (Fm.upd hu4 (.inr rfl)) hu4.same c1.le (by omega) (by omega)
    have f4 : Fm h.size r h h4 := (f1.trans (Fm.upd hu3 (.inr rfl))).trans (Fm.upd hu4 (.inr rfl))
    have s4 : h4.size = h.size + 1 := by rw [hu4.size, hu3.size, s1]
    have b4 := (hu4.other h.size (by omega)).trans ((hu3.other h.size (by omega)).trans a1.at_)
    refine runs_closure hf hname hb ?_
    refine hread c4 ?_
    cases m with
    | out => exact hk.elim
    | bad code pos => exact fun e h' hf f => hk e h' (hf.more (by omega)) (f4.trans (f.less (by omega)))
    | ok x =>
      obtain ⟨t, p', gr'⟩ := x
      intro h5 vs f5 c5 ht
      have s5 := f5.size
      refine alloc_rule Tryz.zero36 fun h6 a6 => ?_
      have s6 := a6.size
      refine storeFull a6.at_ (xs := vs.toArray) (by rw [Tryz.size36]; simp [ht.len]) (by simp [ht.len, Value.cells]) (by simpa using ht.flat) fun h7 hu7 => ?_
      have s7 := hu7.size
      have c7 : Cx S n h7 r bv l p' ext (op + 1) gr' := (c5.al a6).upd hu7 c5.nle (by have := c5.rlt; omega)
      have f7 : Fm h.size r h h7 := ((f4.trans (f5.less (by omega))).trans (Fm.al a6 (by omega))).trans (Fm.upd hu7 (.inl (by omega)))
      have b7 := (hu7.other h.size (by omega)).trans ((a6.old h.size (by omega)).trans ((f5.same h.size (by omega) (by omega)).trans b4))
      have t7 : IsRe h7 (fun b => h4.size ≤ b ∧ b < h5.size) t vs := ht.frame fun b hb hlt => ⟨⟨hb, hlt⟩, (hu7.other b (by omega)).trans (a6.old b hlt)⟩
      simp only at hk
      refine Join0.intro (fun h' => isM l shut p' = true ∧ Fm h7.size r h7 h' ∧ Cx S n h' r bv l (p' + shut.length) ext (op + 1) gr') ?_ ?_
      · refine take_spec c7 hsh (fun hy h8 f8 c8 => ?_) (fun hn => ?_)
        · simp only [boolV_bool, bcase_true, bcase_false, need, Tryz.zero36, reads_nil, Tryz.fa57_4, addr_add, Tryz.agg3, reads_eq, reads_add, Tryz.size3, Tryz.fa57_3, Tryz.size36, reads_not, Tryz.fa57_0, Tryz.agg29, reads_sub, Tryz.agg36, Tryz.bd36_0_4_5]
          exact ⟨hy, f8, c8⟩
        · rw [if_neg (by simp [hn])] at hk
          simp only [boolV_bool, bcase_true, bcase_false, need, Tryz.zero36, reads_nil, Tryz.fa57_4, addr_add, Tryz.agg3, reads_eq, reads_add, Tryz.size3, Tryz.fa57_3, Tryz.size36, reads_not, Tryz.fa57_0, Tryz.agg29, reads_sub, Tryz.agg36, Tryz.bd36_0_4_5, c7.ld0, reads_blen c7.by_ Tryz.underlying29]
          exact fail_spec (code := 9) c7 (by omega) (by omega) fun e h' hf f => hk e h' (hf.more (by omega)) (f7.trans (f.less (by omega)))
      · rintro h8 ⟨hy, f8, c8⟩
        rw [if_pos hy] at hk
        have s8 := f8.size
        simp only [boolV_bool, bcase_true, bcase_false, need, Tryz.zero36, reads_nil, Tryz.fa57_4, addr_add, Tryz.agg3, reads_eq, reads_add, Tryz.size3, Tryz.fa57_3, Tryz.size36, reads_not, Tryz.fa57_0, Tryz.agg29, reads_sub, Tryz.agg36, Tryz.bd36_0_4_5, c8.ld3, Nat.zero_add]
        have ew : IntKind.i64.wrap (((op + 1 : Nat) : Int) - 1) = ((op : Nat) : Int) := by rw [wrap_s1 (op + 1) (by omega) (by omega)]; simp
        rw [ew]
        refine store1 c8.rd Tryz.size3 rfl (by simp) fun h9 hu9 => ?_
        have s9 := hu9.size
        have c9 : Cx S n h9 r bv l (p' + shut.length) ext op gr' := c8.on (Fm.upd hu9 (.inr rfl)) hu9.same c8.le (by have := c8.opg; omega) c8.g9
        have hr8 := c8.rlt
        have f9 : Fm h7.size r h7 h9 := f8.trans (Fm.upd hu9 (.inr rfl))
        have e9 : ∀ b, b < h7.size → b ≠ r → h9[b]? = h7[b]? := fun b hb hbr => f9.same b hb hbr
        refine load_all ((e9 h5.size (by omega) (by have := c5.rlt; omega)).trans hu7.same) (by rw [Tryz.agg36]; simp [ht.len]) ?_
        refine slice1_rule Tryz.info36 Tryz.underlying34 (by simp [Value.cells, ht.len]) (by omega) (by omega) fun h10 a10 => ?_
        have s10 := a10.size
        simp only [boolV_bool, bcase_true, bcase_false, need, Tryz.zero36, reads_nil, Tryz.fa57_4, addr_add, Tryz.agg3, reads_eq, reads_add, Tryz.size3, Tryz.fa57_3, Tryz.size36, reads_not, Tryz.fa57_0, Tryz.agg29, reads_sub, Tryz.agg36, Tryz.bd36_0_4_5]
        refine ret_re (t := .node 7 .zero 0 0 (gr + 1) [t]) (vs := reL 7 .zero 0 0 (gr + 1) (.slice (some ⟨h9.size, 0, none⟩) 1 1)) (Q := fun b => h.size < b) ((a10.old h.size (by omega)).trans ((e9 h.size (by omega) (by omega)).trans b7)) rfl (fun x hx => by omega)
          (IsRe.kid (vs := vs) a10.at_ (by omega) (t7.frame fun b hb hlt => ⟨by omega, (a10.old b (by omega)).trans (e9 b (by omega) (by omega))⟩)) fun h11 hu11 ht11 => ?_
        have s11 := hu11.size
        refine hk h11 _ (((f7.trans (f9.less (by omega))).trans (Fm.al a10 (by omega))).trans (Fm.upd hu11 (.inl (by omega)))) ((c9.al a10).upd hu11 c.nle (by omega)) (ht11.frame fun b hb _ => ⟨by omega, rfl⟩)
end Rt
end Go.Proofs
