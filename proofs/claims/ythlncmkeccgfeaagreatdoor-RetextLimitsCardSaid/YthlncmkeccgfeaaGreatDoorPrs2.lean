/- A part of the proofs over this seat: Prs2. -/
import Derived.Test.YthlncmkeccgfeaaGreatDoorExt5
import Derived.Recover
set_option linter.unusedVariables false
set_option linter.unusedSimpArgs false
set_option maxRecDepth 100000
namespace Go.Proofs
open Go.Vcg
namespace Rt
attribute [local congr] Reads.congr ReadsS.congr pLoad.congr pLoadS.congr pStore.congr Runs.congr CallsH.congr bcase.congr boolV.congr Stable.congr pAlloc.congr
variable {S : Glb} {n : Nat} {h : Heap} {r : Nat} {bv : Value} {l : List UInt8} {p : Nat} {ext : Bool} {op gr : Nat} {R : Value → Heap → Prop} {E : List PanicEntry → Heap → Prop}

/-! ### What the basic grammar reads -/
def basSigns : List UInt8 := [46, 91, 93, 42, 94, 36, 47, 92]
def timesBM : Nat → List UInt8 → T → Nat → Res (T × Nat)
  | 0, _, _, _ => .out
  | k + 1, l, e, p =>
    if isM l [42] p then timesBM k l (repM e 0 (-1)) (p + 1)
    else if isM l [92, 123] p then (match intM l e p [92, 125] (p + 2) with | .ok x => timesBM k l x.1 x.2 | .bad a b => .bad a b | .out => .out)
    else .ok (e, p)
def finB (l : List UInt8) (ts : List T) (p gr : Nat) : Res (T × Nat × Nat) := if ts.isEmpty then .bad 3 p else .ok (joinM 4 ts, p, gr)
mutual
def atomM : Nat → List UInt8 → Nat → Nat → Nat → Res (T × Nat × Nat)
  | 0, _, _, _, _ => .out
  | k + 1, l, p, op, gr =>
    if isM l [92, 40] p then groupM l p [92, 41] gr (basicM k l (p + 2) (op + 1) (gr + 1))
    else if isM l [92, 123] p ∨ isM l [92, 125] p then .bad 3 p
    else if isM l [92] p then (escM l basSigns p).with gr
    else if isM l [46] p then .ok (.node 1 anyW 0 0 0 [], p + 1, gr)
    else if isM l [91] p then (brkM false l (p + 1)).with gr
    else match l[p]? with
      | some c => .ok (single c, p + 1, gr)
      | none => .out
def basL : Nat → List UInt8 → List T → Nat → Nat → Nat → Res (T × Nat × Nat)
  | 0, _, _, _, _, _ => .out
  | k + 1, l, ts, p, op, gr =>
    if l.length ≤ p ∨ isM l [92, 41] p then finB l ts p gr
    else if isM l [36] p ∧ (p + 1 = l.length ∨ isM l [92, 41] (p + 1)) then finB l (ts ++ [.node 3 .zero 0 0 0 []]) (p + 1) gr
    else match atomM k l p op gr with
      | .ok (t, p', gr') => match timesBM k l t p' with
        | .ok (u, p2) => basL k l (ts ++ [u]) p2 op gr'
        | .bad a b => .bad a b
        | .out => .out
      | x => x
def basicM : Nat → List UInt8 → Nat → Nat → Nat → Res (T × Nat × Nat)
  | 0, _, _, _, _ => .out
  | k + 1, l, p, op, gr => if isM l [94] p then basL k l [.node 2 .zero 0 0 0 []] (p + 1) op gr else basL k l [] p op gr
end

def BasicOk (k : Nat) : Prop := ∀ {S : Glb} {n : Nat} {h : Heap} {r : Nat} {bv : Value} {l : List UInt8} {p : Nat} {ext : Bool} {op gr : Nat} {R : Value → Heap → Prop} {E : List PanicEntry → Heap → Prop},
  ext = false → Cx S n h r bv l p ext op gr → Owes S n h r bv l ext op (basicM k l p op gr) R E → CallsH Tryz.prog 56 #[ptr r] h R E
def AtomOk (k : Nat) : Prop := ∀ {S : Glb} {n : Nat} {h : Heap} {r : Nat} {bv : Value} {l : List UInt8} {p : Nat} {ext : Bool} {op gr : Nat} {R : Value → Heap → Prop} {E : List PanicEntry → Heap → Prop},
  ext = false → Cx S n h r bv l p ext op gr → p < l.length → Owes S n h r bv l ext op (atomM k l p op gr) R E → CallsH Tryz.prog 82 #[ptr r] h R E

theorem atom_spec {k : Nat} (hB : BasicOk k) : AtomOk (k + 1) := by
  intro S n h r bv l p ext op gr R E he c hp hk
  refine C82 ?_
  unfold S82
  refine alloc_rule Tryz.zero36 fun h2 a2 => ?_
  have s2 := a2.size
  have c2 := c.al a2
  have hr := c.rlt
  have hl := c.len
  have f2 : Fm h.size r h h2 := Fm.al a2 (Nat.le_refl _)
  have back : ∀ {m : Res (T × Nat × Nat)} {h' : Heap}, Owes S n h r bv l ext op m R E → Fm h2.size r h2 h' →
      Owes S n h' r bv l ext op m (fun v h'' => pStore Tryz.prog 36 (.pointer (some ⟨h.size, 0, none⟩)) v h'' fun h7 => pLoad Tryz.prog 36 (.pointer (some ⟨h.size, 0, none⟩)) h7 fun r4 => R r4 h7) E := by
    intro m h' hk f
    have sf := f.size
    cases m with
    | out => exact hk
    | bad a b => exact fun e h3 hf f3 => hk e h3 (hf.more (by omega)) ((f2.trans (f.less (by omega))).trans (f3.less (by omega)))
    | ok x =>
      obtain ⟨t, p', gr'⟩ := x
      intro h3 vs f3 c3 ht
      have s3 := f3.size
      refine ret_re (Q := fun b => h'.size ≤ b) ((f3.same h.size (by omega) (by omega)).trans ((f.same h.size (by omega) (by omega)).trans a2.at_)) rfl (fun x hx => by omega) ht fun h4 hu ht4 => ?_
      exact hk h4 vs (((f2.trans (f.less (by omega))).trans (f3.less (by omega))).trans (Fm.upd hu (.inl (Nat.le_refl _)))) (c3.upd hu c.nle (by omega)) (ht4.frame fun b hb _ => ⟨by omega, rfl⟩)
  unfold atomM at hk
  have f0 : Fm h2.size r h2 h2 := Fm.refl ..
  simp only [boolV_bool, bcase_true, bcase_false, need, Tryz.zero36, reads_nil, Tryz.fa57_1, addr_add, Tryz.agg3, reads_mkfunc, Tryz.size36, Tryz.bd36_0_1, reads_add, Tryz.size3, Tryz.fa57_0, Tryz.agg29, Tryz.agg5, Tryz.agg36, c2.ld1, Nat.zero_add]
  refine Join0.intro (fun h' => h' = h2 ∧ ∃ c, l[p]? = some c ∧ Owes S n h r bv l ext op (.ok (single c, p + 1, gr)) R E) ?_ ?_
  · refine take_spec c2 (by simp) (fun hy h3 f3 c3 => ?_) (fun hn => ?_)
    · rw [if_pos hy] at hk
      simp only [boolV_bool, bcase_true, reads_mkfunc]
      exact group_spec Tryz.func56 (by kernel_rfl) rfl c3 (by simp) (fun c o => hB he c o) (back hk f3)
    simp only [boolV_bool, bcase_false]
    rw [if_neg (by simp [hn])] at hk
    refine Join1.intro (fun v h' => h' = h2 ∧ v = .bool (isM l [92, 123] p || isM l [92, 125] p)) ?_ ?_
    · refine is_spec c2 (by simp) ?_
      simp only [boolV_bool]
      refine bcase_of (fun hy => ⟨by simp, by simp [hy]⟩) (fun hn => ?_)
      refine is_spec c2 (by simp) ⟨by simp, by simp [hn]⟩
    rintro w h3 ⟨rfl, rfl⟩
    simp only [boolV_bool, bcase_true, bcase_false, need, Tryz.zero36, reads_nil, Tryz.fa57_1, addr_add, Tryz.agg3, reads_mkfunc, Tryz.size36, Tryz.bd36_0_1, reads_add, Tryz.size3, Tryz.fa57_0, Tryz.agg29, Tryz.agg5, Tryz.agg36, c2.ld1, Nat.zero_add]
    refine bcase_of (fun hy => ?_) (fun hn => ?_)
    · rw [if_pos (by simpa using hy)] at hk
      exact fail_spec (code := 3) c2 (by omega) (by omega) fun e h' hf f => hk e h' (hf.more (by omega)) (f2.trans (f.less (by omega)))
    rw [if_neg (by simpa using hn)] at hk
    refine is_spec c2 (by simp) ?_
    simp only [boolV_bool]
    refine bcase_of (fun hy => ?_) (fun hn => ?_)
    · rw [if_pos hy] at hk
      exact esc_spec c2 hp (back hk f0)
    rw [if_neg (by simp [hn])] at hk
    refine take_spec c2 (by simp) (fun hy h3 f3 c3 => ?_) (fun hn => ?_)
    · rw [if_pos hy] at hk
      simp only [boolV_bool, bcase_true]
      have s3 := f3.size
      have hr3 := c3.rlt
      refine any_spec fun h4 f4 => ?_
      rw [show Value.agg anyW.vals.toArray = .agg #[.int .u64 anyW.a, .int .u64 anyW.b, .int .u64 anyW.c, .int .u64 anyW.d] from rfl, Tryz.bd36_0_1]
      have f4' : Fm h3.size r h3 h4 := ⟨f4.size, fun k hk _ => f4.same k hk (by omega)⟩
      exact back (m := .ok (.node 1 anyW 0 0 0 [], p + 1, gr)) hk f3 h4 _ f4' (c3.still (f4'.less c3.nle) (f4.same r hr3 (by omega))) IsRe.leaf
    simp only [boolV_bool, bcase_false]
    rw [if_neg (by simp [hn])] at hk
    refine take_spec c2 (by simp) (fun hy h3 f3 c3 => ?_) (fun hn => ?_)
    · rw [if_pos hy] at hk
      simp only [boolV_bool, bcase_true]
      subst he
      exact bracket_spec c3 (back hk f3)
    rw [if_neg (by simp [hn]), List.getElem?_eq_getElem hp] at hk
    simp only [boolV_bool, bcase_false]
    exact ⟨by simp, l[p], List.getElem?_eq_getElem hp, hk⟩
  · rintro h3 ⟨rfl, x, hx, hk⟩
    have hxp : l[p] = x := by rw [List.getElem?_eq_getElem hp] at hx; simpa using hx
    subst hxp
    simp only [boolV_bool, bcase_true, bcase_false, need, Tryz.zero36, reads_nil, Tryz.fa57_1, addr_add, Tryz.agg3, reads_mkfunc, Tryz.size36, Tryz.bd36_0_1, reads_add, Tryz.size3, Tryz.fa57_0, Tryz.agg29, Tryz.agg5, Tryz.agg36, c2.ld1, Nat.zero_add, wrap_n1 p (by omega)]
    refine store1 c2.rd Tryz.size3 rfl (by simp) fun h4 hu3 => ?_
    obtain ⟨f3, c3⟩ := c2.at_ (p' := p + 1) hu3 (by omega)
    have hr2 := c2.rlt
    simp only [boolV_bool, bcase_true, bcase_false, need, Tryz.zero36, reads_nil, Tryz.fa57_1, addr_add, Tryz.agg3, reads_mkfunc, Tryz.size36, Tryz.bd36_0_1, reads_add, Tryz.size3, Tryz.fa57_0, Tryz.agg29, Tryz.agg5, Tryz.agg36, c3.ld0, Nat.zero_add]
    refine idx_load c3.by_ Tryz.underlying29 Tryz.size5 Tryz.agg5 hp ?_
    refine single_spec fun h5 f4 => ?_
    have f4' : Fm h4.size r h4 h5 := ⟨f4.size, fun k hk _ => f4.same k hk (by omega)⟩
    exact back (m := .ok (single l[p], p + 1, gr)) hk f3 h5 _ f4' (c3.still (f4'.less c3.nle) (f4.same r (by have := c3.rlt; omega) (by have := c3.rlt; omega))) IsRe.leaf

theorem reads_min2 {t r : TypeId} {K : IntKind} {a b : Int} {P : Program} {k : Value → Prop} : Reads P (builtinS .min #[t, r] t #[.int K a, .int K b]) h k = k (.int K (if b < a then b else a)) := reads_pure fun _ => by
  simp [builtinS, Builtin.min_, Builtin.min2]
theorem two_ahead {l : List UInt8} {p : Nat} (hp : p + 1 ≤ l.length) (x y : UInt8) : decide ((l.take (if l.length < p + 3 then l.length else p + 3)).drop (p + 1) = [x, y]) = isM l [x, y] (p + 1) := by
  by_cases h : p + 3 ≤ l.length
  · rw [if_neg (by omega), isM, pre_drop (by simp; omega)]
    rfl
  · rw [if_pos (by omega), isM, pre_long (by simp; omega) hp]
    have : ((l.take l.length).drop (p + 1)).length < 2 := by simp; omega
    apply decide_eq_false
    intro e
    rw [e] at this
    simp at this

theorem basic_spec {k : Nat} (hA : ∀ i, i < k → AtomOk i) (hk0 : k ≤ 1000000) : BasicOk k := by
  intro S n h r bv l p ext op gr R E he c hk
  cases k with
  | zero => unfold basicM at hk; exact hk.elim
  | succ k =>
  unfold basicM at hk
  refine C56 ?_
  unfold S56
  refine alloc_rule Tryz.zero36 fun h1 a1 => ?_
  have s1 := a1.size
  have c1 := c.al a1
  have hr := c.rlt
  have hl := c.len
  have f1 : Fm h.size r h h1 := Fm.al a1 (Nat.le_refl _)
  have St : ∃ St : List T → Nat → Nat → Value → Heap → Prop, ∀ ts p' gr' v h', St ts p' gr' v h' ↔ ∃ (cs : Array Value), Fm h.size r h h' ∧ h1.size ≤ h'.size ∧ Cx S n h' r bv l p' ext op gr' ∧ h'[h.size]? = some (.cells cs 36 (0, 0)) ∧ cs.size = 9 ∧
      Kids h' h1.size v ts := ⟨_, fun _ _ _ _ _ => Iff.rfl⟩
  obtain ⟨St, hSt⟩ := St
  refine Join1.intro (fun v h' => ∃ ts p' , ts.length ≤ 1 ∧ St ts p' gr v h' ∧ Owes S n h r bv l ext op (basL k l ts p' op gr) R E) ?_ ?_
  · refine take_spec c1 (by simp) (fun hy h2 f2 c2 => ?_) (fun hn => ?_)
    · rw [if_pos hy] at hk
      have s2 := f2.size
      simp only [boolV_bool, bcase_true, bcase_false, need, Tryz.zero36, Tryz.bd36_0, reads_not, reads_pick, reads_nil, Tryz.fa57_1, addr_add, Tryz.agg3, reads_add, Tryz.fa57_0, Tryz.agg29, reads_eq, reads_seq, Tryz.size3, Tryz.size36, Tryz.agg36]
      refine push_kid (t := .node 2 .zero 0 0 0 []) (vs := reL 2 .zero 0 0 0 (.slice none 0 0)) (n := h1.size) (Kids.nil h2 _) IsRe.leaf (by omega) (by simp) fun v' h3 hk3 hf3 => ?_
      have s3 := (hf3 r).size
      refine ⟨_, p + 1, by simp, (hSt ..).2 ⟨_, (f1.trans (f2.less (by omega))).trans ((hf3 r).less (by omega)), by omega, c2.still ((hf3 r).less (by have := c.nle; omega)) ((hf3 h3.size).same r (by omega) (by have := c2.rlt; omega)), ((hf3 r).same h.size (by omega) (by omega)).trans ((f2.same h.size (by omega) (by omega)).trans a1.at_), rfl, hk3⟩, by simpa using hk⟩
    · rw [if_neg (by simp [hn])] at hk
      simp only [boolV_bool, bcase_false]
      exact ⟨[], p, by simp, (hSt ..).2 ⟨_, f1, Nat.le_refl _, c1, a1.at_, rfl, Kids.nil _ _⟩, hk⟩
  rintro v0 h0 ⟨ts0, p0, hts0, hst0, hk00⟩
  refine Join1.intro (fun v h' => ∃ ts p' gr', St ts p' gr' v h' ∧ Owes S n h r bv l ext op (finB l ts p' gr') R E) ?_ ?_
  · refine Loop1.fuel (fun j v h' => ∃ ts p' gr', j + ts.length ≤ k + 1 ∧ St ts p' gr' v h' ∧ Owes S n h r bv l ext op (basL j l ts p' op gr') R E) (n := k) ⟨ts0, p0, gr, by omega, hst0, hk00⟩ fun j v h4 hi4 => ?_
    obtain ⟨ts, p', gr', hjk, hst, hk4⟩ := hi4
    obtain ⟨cs, f4, hs4, c4, hb, hcs, hkid⟩ := (hSt ..).1 hst
    have s4 := f4.size
    have hr4 := c4.rlt
    have hp4 := c4.le
    cases j with
    | zero => unfold basL at hk4; exact hk4.elim
    | succ j =>
    unfold basL at hk4
    refine Join0.intro (fun h' => h' = h4 ∧ ¬ (l.length ≤ p' ∨ isM l [92, 41] p' = true)) ?_ ?_
    · refine done_spec c4 ?_
      simp only [reads_not, boolV_bool]
      refine bcase_of (fun hd => ?_) (fun hd => ?_)
      · refine is_spec c4 (by simp) ?_
        simp only [reads_not, boolV_bool]
        refine bcase_of (fun hd2 => ⟨by simp, ?_⟩) (fun hd2 => ?_)
        · have h1 : ¬ l.length ≤ p' := by simpa using hd
          have h2 : ¬ isM l [92, 41] p' = true := by simpa using hd2
          exact fun e => e.elim h1 h2
        · rw [if_pos (.inr (by simpa using hd2))] at hk4
          exact ⟨ts, p', gr', hst, hk4⟩
      · rw [if_pos (.inl (by simpa using hd))] at hk4
        exact ⟨ts, p', gr', hst, hk4⟩
    rintro h5 ⟨rfl, hcond⟩
    rw [if_neg hcond] at hk4
    have hlt : p' < l.length := Nat.lt_of_not_le fun e => hcond (.inl e)
    refine Join1.intro (fun w h' => h' = h5 ∧ w = .bool (isM l [36] p' && (decide (p' + 1 = l.length) || isM l [92, 41] (p' + 1)))) ?_ ?_
    · refine ⟨?_, trivial⟩
      refine is_spec c4 (by simp) ?_
      refine ⟨trivial, ?_⟩
      simp only [boolV_bool]
      refine bcase_of (fun hy => ?_) (fun hn => ?_)
      · simp only [boolV_bool, bcase_true, bcase_false, need, Tryz.zero36, Tryz.bd36_0, reads_not, reads_pick, reads_nil, Tryz.fa57_1, addr_add, Tryz.agg3, reads_add, Tryz.fa57_0, Tryz.agg29, reads_eq, reads_seq, Tryz.size3, Tryz.size36, Tryz.agg36, c4.ld0, c4.ld1, Nat.zero_add, reads_blen c4.by_ Tryz.underlying29, wrap_n1 p' (by omega), wrap_n3 p' (by omega), hy, Bool.true_and, dec_nn_eq, reads_min2]
        refine bcase_of (fun he => ⟨trivial, by simp [he]⟩) (fun he => ?_)
        have em : (if ((l.length : Nat) : Int) < ((p' + 3 : Nat) : Int) then ((l.length : Nat) : Int) else ((p' + 3 : Nat) : Int)) = ((if l.length < p' + 3 then l.length else p' + 3 : Nat) : Int) := by
          split <;> split <;> first | rfl | omega
        rw [em]
        refine reads_bslice c4.by_ Tryz.underlying29 Tryz.size5 (by split <;> omega) (by split <;> omega) fun u hu => ?_
        rw [reads_bstring hu Tryz.underlying29 Tryz.underlying5 Tryz.underlying9, reads_seq, two_ahead (by omega), he, Bool.false_or]
        exact ⟨by simp, rfl⟩
      · simp only [hn, Bool.false_and, true_and]
    rintro w h6 ⟨rfl, rfl⟩
    simp only [boolV_bool, bcase_true, bcase_false, need, Tryz.zero36, Tryz.bd36_0, reads_not, reads_pick, reads_nil, Tryz.fa57_1, addr_add, Tryz.agg3, reads_add, Tryz.fa57_0, Tryz.agg29, reads_eq, reads_seq, Tryz.size3, Tryz.size36, Tryz.agg36, c4.ld1, Nat.zero_add, wrap_n1 p' (by omega)]
    refine bcase_of (fun hy => ?_) (fun hn => ?_)
    · rw [if_pos (by simpa using hy)] at hk4
      refine store1 c4.rd Tryz.size3 rfl (by simp) fun h7 hu7 => ?_
      obtain ⟨f7, c7⟩ := c4.at_ (p' := p' + 1) hu7 (by omega)
      have s7 := hu7.size
      refine push_kid (t := .node 3 .zero 0 0 0 []) (vs := reL 3 .zero 0 0 0 (.slice none 0 0)) (n := h1.size) (hkid.fm f7 (by omega)) IsRe.leaf (by omega) (by omega) fun v' h8 hk8 hf8 => ?_
      have s8 := (hf8 r).size
      exact ⟨_, p' + 1, gr', (hSt ..).2 ⟨cs, (f4.trans (f7.less (by omega))).trans ((hf8 r).less (by omega)), by omega, c7.still ((hf8 r).less (by have := c.nle; omega)) ((hf8 h8.size).same r (by omega) (by omega)), ((hf8 r).same h.size (by omega) (by omega)).trans ((f7.same h.size (by omega) (by omega)).trans hb), hcs, hk8⟩, hk4⟩
    · rw [if_neg (by simpa using hn)] at hk4
      refine hA j (by omega) he c4 hlt ?_
      cases hm : atomM j l p' op gr' with
      | out => rw [hm] at hk4; exact hk4.elim
      | bad a b => rw [hm] at hk4; exact fun e h3 hf f3 => hk4 e h3 (hf.more (by omega)) (f4.trans (f3.less (by omega)))
      | ok x =>
      obtain ⟨t, p2, gr2⟩ := x
      rw [hm] at hk4
      simp only at hk4
      intro h7 vs f7 c7 ht7
      have s7 := f7.size
      refine alloc_rule Tryz.zero36 fun h8 a8 => ?_
      have s8 := a8.size
      refine storeFull a8.at_ (xs := vs.toArray) (by rw [Tryz.size36]; simp [ht7.len]) (by simp [ht7.len, Value.cells]) (by simpa using ht7.flat) fun h9 hu9 => ?_
      have s9 := hu9.size
      have hr7 := c7.rlt
      have e9 : ∀ b, b < h7.size → h9[b]? = h7[b]? := fun b hb => (hu9.other b (by omega)).trans (a8.old b hb)
      have c9 : Cx S n h9 r bv l p2 ext op gr2 := (c7.al a8).upd hu9 c7.nle (by omega)
      have f9 : Fm h6.size r h6 h9 := ⟨by omega, fun b hb hbr => (e9 b (by omega)).trans (f7.same b hb hbr)⟩
      refine Loop0.fuel (fun i h' => ∃ (u : T) (ws : List Value) (p3 : Nat), Fm h6.size r h6 h' ∧ h9.size ≤ h'.size ∧ Cx S n h' r bv l p3 ext op gr2 ∧ h'[h7.size]? = some (.cells ws.toArray 36 (0, 0)) ∧ IsRe h' (fun b => h6.size ≤ b ∧ b ≠ h7.size) u ws ∧
        Owes S n h r bv l ext op (match timesBM i l u p3 with | .ok (u, p2) => basL j l (ts ++ [u]) p2 op gr2 | .bad a b => .bad a b | .out => .out) R E) (n := j)
        ⟨t, vs, p2, f9, Nat.le_refl _, c9, hu9.same, ht7.frame fun b hb hlt => ⟨⟨hb, by omega⟩, e9 b hlt⟩, hk4⟩ fun i h10 hi10 => ?_
      obtain ⟨u, ws, p3, f10, hs10, c10, hv10, ht10, hk10⟩ := hi10
      have s10 := f10.size
      have hr10 := c10.rlt
      cases i with
      | zero => exact hk10.elim
      | succ i =>
      unfold timesBM at hk10
      simp only [boolV_bool, bcase_true, bcase_false, need, Tryz.zero36, Tryz.bd36_0, reads_not, reads_pick, reads_nil, Tryz.fa57_1, addr_add, Tryz.agg3, reads_add, Tryz.fa57_0, Tryz.agg29, reads_eq, reads_seq, Tryz.size3, Tryz.size36, Tryz.agg36, c10.ld1, Nat.zero_add]
      refine take_spec c10 (by simp) (fun hy h11 f11 c11 => ?_) (fun hn1 => ?_)
      · rw [if_pos hy] at hk10
        simp only [boolV_bool, bcase_true]
        have s11 := f11.size
        have e1 := (f11.same h7.size (by omega) (by omega)).trans hv10
        refine load_all e1 (by rw [Tryz.agg36]; simp [ht10.len]) ?_
        have ht11 : IsRe h11 (fun b => h6.size ≤ b ∧ b ≠ h7.size) u ws := ht10.frame fun b hb hlt => ⟨hb, f11.same b hlt (by omega)⟩
        refine rep_spec ht11 fun h12 xs f12 ht12 => ?_
        have s12 := f12.size
        have hr11 := c11.rlt
        refine storeFull ((f12.same h7.size (by omega) (by omega)).trans e1) (xs := xs.toArray) (by rw [Tryz.size36]; simp [ht12.len]) (by simp [ht12.len, ht10.len]) (by simpa using ht12.flat) fun h13 hu13 => ?_
        have s13 := hu13.size
        have f12' : Fm h11.size r h11 h12 := ⟨f12.size, fun k hk _ => f12.same k hk (by omega)⟩
        have c12 : Cx S n h12 r bv l (p3 + 1) ext op gr2 := c11.still (f12'.less c11.nle) (f12.same r hr11 (by omega))
        refine ⟨i, by omega, _, xs, p3 + 1, ((f10.trans (f11.less (by omega))).trans (f12'.less (by omega))).trans (Fm.upd hu13 (.inl (by omega))), by omega, c12.upd hu13 (by have := c4.nle; omega) (by omega), hu13.same, ?_, hk10⟩
        exact ht12.frame fun b hb _ => ⟨by rcases hb with hb | hb <;> omega, hu13.other b (by rcases hb with hb | hb <;> omega)⟩
      simp only [boolV_bool, bcase_false]
      rw [if_neg (by simp [hn1])] at hk10
      refine take_spec c10 (by simp) (fun hy h11 f11 c11 => ?_) (fun hn2 => ?_)
      · rw [if_pos hy] at hk10
        simp only [boolV_bool, bcase_true]
        have s11 := f11.size
        have e1 := (f11.same h7.size (by omega) (by omega)).trans hv10
        refine load_all e1 (by rw [Tryz.agg36]; simp [ht10.len]) ?_
        have ht11 : IsRe h11 (fun b => h6.size ≤ b ∧ b ≠ h7.size) u ws := ht10.frame fun b hb hlt => ⟨hb, f11.same b hlt (by omega)⟩
        refine interval_spec (p := p3 + 2) (frm := p3) (shut := [92, 125]) c11 ht11 (fun x hx => by omega) (by simp) ?_
        cases hm2 : intM l u p3 [92, 125] (p3 + 2) with
        | out => rw [hm2] at hk10; exact hk10.elim
        | bad a b =>
          rw [hm2] at hk10
          exact fun e h12 hf f12 => hk10 e h12 (hf.more (by omega)) ((f4.trans (f10.less (by omega))).trans ((f11.less (by omega)).trans (f12.less (by omega))))
        | ok x =>
        rw [hm2] at hk10
        obtain ⟨u2, p4⟩ := x
        intro h12 xs f12 c12 ht12
        have s12 := f12.size
        have hr11 := c11.rlt
        refine storeFull ((f12.same h7.size (by omega) (by omega)).trans e1) (xs := xs.toArray) (by rw [Tryz.size36]; simp [ht12.len]) (by simp [ht12.len, ht10.len]) (by simpa using ht12.flat) fun h13 hu13 => ?_
        have s13 := hu13.size
        refine ⟨i, by omega, _, xs, p4, ((f10.trans (f11.less (by omega))).trans (f12.less (by omega))).trans (Fm.upd hu13 (.inl (by omega))), by omega, c12.upd hu13 (by have := c4.nle; omega) (by omega), hu13.same, ?_, hk10⟩
        exact ht12.frame fun b hb _ => ⟨by rcases hb with hb | hb <;> omega, hu13.other b (by rcases hb with hb | hb <;> omega)⟩
      rw [if_neg (by simp [hn2])] at hk10
      simp only [boolV_bool, bcase_false]
      refine load_all hv10 (by rw [Tryz.agg36]; simp [ht10.len]) ?_
      have hkid10 : Kids h10 h1.size v ts := hkid.fm f10 (by omega)
      have hap : IsRe h10 (fun b => h1.size ≤ b ∧ v.ownBlock ≠ some b) u ws := hkid.apart (by omega) (ht10.frame fun b hb _ => ⟨hb.1, rfl⟩)
      refine push_kid hkid10 hap (by omega) (by omega) fun v' h11 hk11 hf11 => ?_
      have s11 := (hf11 r).size
      exact ⟨j, by omega, ts ++ [u], p3, gr2, by simp; omega, (hSt ..).2 ⟨cs, (f4.trans (f10.less (by omega))).trans ((hf11 r).less (by omega)), by omega, c10.still ((hf11 r).less (by have := c.nle; omega)) ((hf11 h11.size).same r (by omega) (by omega)),
        ((hf11 r).same h.size (by omega) (by omega)).trans ((f10.same h.size (by omega) (by omega)).trans hb), hcs, hk11⟩, hk10⟩
  · rintro v h4 ⟨ts, p', gr', hst, hk4⟩
    obtain ⟨cs, f4, hs4, c4, hb, hcs, hkid⟩ := (hSt ..).1 hst
    have s4 := f4.size
    have hr4 := c4.rlt
    unfold finB at hk4
    simp only [boolV_bool, bcase_true, bcase_false, need, Tryz.zero36, Tryz.bd36_0, reads_not, reads_pick, reads_nil, Tryz.fa57_1, addr_add, Tryz.agg3, reads_add, Tryz.fa57_0, Tryz.agg29, reads_eq, reads_seq, Tryz.size3, Tryz.size36, Tryz.agg36, c4.ld1, Nat.zero_add, reads_klen hkid]
    refine bcase_of (fun hz => ?_) (fun hz => ?_)
    · have hts : ts = [] := List.length_eq_zero_iff.1 (by have := of_decide_eq_true hz; omega)
      subst hts
      simp only [List.isEmpty_nil, if_true] at hk4
      exact fail_spec (code := 3) c4 (by omega) (by omega) fun e h' hf f => hk4 e h' (hf.more (by omega)) (f4.trans (f.less (by omega)))
    · have hts : ts ≠ [] := by rintro rfl; simp at hz
      have hts' : ts.isEmpty = false := by cases ts <;> simp at hts ⊢
      simp only [hts', Bool.false_eq_true, if_false] at hk4
      refine joined_spec (kind := 4) hkid hs4 hts fun h5 vs f5 ht5 => ?_
      have s5 := f5.size
      refine ret_re (Q := fun b => h1.size ≤ b) ((f5.same h.size (by omega) (by omega)).trans hb) hcs (fun x hx => by omega) ht5 fun h6 hu6 ht6 => ?_
      have f5' : Fm h4.size r h4 h5 := ⟨f5.size, fun k hk _ => f5.same k hk (by omega)⟩
      exact hk4 h6 vs ((f4.trans (f5'.less (by omega))).trans (Fm.upd hu6 (.inl (Nat.le_refl _)))) ((c4.still (f5'.less c4.nle) (f5.same r hr4 (by omega))).upd hu6 c.nle (by omega)) (ht6.frame fun b hb _ => ⟨by omega, rfl⟩)

theorem all_basic : ∀ k, k ≤ 1000000 → BasicOk k ∧ AtomOk k := by
  intro k
  induction k using Nat.strongRecOn with
  | _ k ih =>
    intro hk
    refine ⟨basic_spec (fun i hi => (ih i hi (by omega)).2) hk, ?_⟩
    cases k with
    | zero =>
      intro S n h r bv l p ext op gr R E he c hp hk
      unfold atomM at hk
      exact hk.elim
    | succ k => exact atom_spec (ih k (by omega) (by omega)).1
end Rt
end Go.Proofs

set_option maxRecDepth 100000
namespace Go.Proofs
open Go.Vcg
namespace Rt
attribute [local congr] Reads.congr ReadsS.congr pLoad.congr pLoadS.congr pStore.congr Runs.congr CallsH.congr bcase.congr boolV.congr Stable.congr pAlloc.congr
variable {S : Glb} {n : Nat} {h : Heap} {r : Nat} {bv : Value} {l : List UInt8} {p : Nat} {ext : Bool} {op gr : Nat} {R : Value → Heap → Prop} {E : List PanicEntry → Heap → Prop}

def wholeM (k : Nat) (l : List UInt8) (ext : Bool) : Res (T × Nat × Nat) :=
  match (if ext then branchesM k l 0 0 0 else basicM k l 0 0 0) with
  | .ok (t, p, gr) => if l.length ≤ p then .ok (t, p, gr) else .bad 9 p
  | x => x
theorem whole_spec {k : Nat} (hk0 : k ≤ 1000000) (c : Cx S n h r bv l 0 ext 0 0) (hk : Owes S n h r bv l ext 0 (wholeM k l ext) R E) : CallsH Tryz.prog 31 #[ptr r] h R E := by
  refine C31 ?_
  unfold S31
  refine alloc_rule Tryz.zero36 fun h1 a1 => alloc_rule Tryz.zero36 fun h2 a2 => ?_
  have s1 := a1.size
  have s2 := a2.size
  have c1 := c.al a1
  have c2 := c1.al a2
  have hr := c.rlt
  have f2 : Fm h.size r h h2 := (Fm.al a1 (Nat.le_refl _)).trans (Fm.al a2 (by omega))
  have b2 := (a2.old h.size (by omega)).trans a1.at_
  unfold wholeM at hk
  have hJ : ∃ J : Heap → Prop, ∀ h3, J h3 ↔ ∃ (t : T) (vs : List Value) (p' gr' : Nat) (cs : Array Value), Fm h.size r h h3 ∧ Cx S n h3 r bv l p' ext 0 gr' ∧ h3[h.size]? = some (.cells cs 36 (0, 0)) ∧ cs.size = 9 ∧
        h3[h1.size]? = some (.cells vs.toArray 36 (0, 0)) ∧ IsRe h3 (fun b => h1.size < b) t vs ∧ Owes S n h r bv l ext 0 (if l.length ≤ p' then .ok (t, p', gr') else .bad 9 p') R E := ⟨_, fun _ => Iff.rfl⟩
  obtain ⟨J, hJ⟩ := hJ
  have put : ∀ {m : Res (T × Nat × Nat)}, Owes S n h r bv l ext 0 (match m with | .ok (t, p, gr) => if l.length ≤ p then .ok (t, p, gr) else .bad 9 p | x => x) R E →
      Owes S n h2 r bv l ext 0 m (fun v h'' => pStore Tryz.prog 36 (.pointer (some ⟨h1.size, 0, none⟩)) v h'' fun h3 => J h3) E := by
    intro m hk
    cases m with
    | out => exact hk
    | bad a b => exact fun e h3 hf f3 => hk e h3 (hf.more (by omega)) (f2.trans (f3.less (by omega)))
    | ok x =>
      obtain ⟨t, p', gr'⟩ := x
      intro h3 vs f3 c3 ht
      have s3 := f3.size
      have hr3 := c3.rlt
      refine storeFull ((f3.same h1.size (by omega) (by omega)).trans a2.at_) (xs := vs.toArray) (by rw [Tryz.size36]; simp [ht.len]) (by simp [ht.len, Value.cells]) (by simpa using ht.flat) fun h4 hu => ?_
      rw [hJ]
      exact ⟨t, vs, p', gr', _, (f2.trans (f3.less (by omega))).trans (Fm.upd hu (.inl (by omega))), c3.upd hu (by have := c.nle; omega) (by omega), (hu.other h.size (by omega)).trans ((f3.same h.size (by omega) (by omega)).trans b2), rfl, hu.same, ht.frame fun b hb _ => ⟨by omega, hu.other b (by omega)⟩, hk⟩
  refine Join0.intro J ?_ ?_
  · simp only [boolV_bool, bcase_true, bcase_false, need, Tryz.zero36, reads_nil, Tryz.fa57_2, addr_add, Tryz.agg4, Tryz.size36, reads_not, Tryz.fa57_1, Tryz.agg3, Tryz.agg36, c2.ld2, Nat.zero_add]
    refine bcase_of (fun he => ?_) (fun he => ?_)
    · subst he
      exact (all_spec k hk0).1 rfl c2 (put hk)
    · subst he
      exact (all_basic k hk0).1 rfl c2 (put hk)
  · intro h3 hj
    obtain ⟨t, vs, p', gr', cs, f3, c3, hb, hcs, hv, ht, hk3⟩ := (hJ _).1 hj
    have s3 := f3.size
    refine done_spec c3 ?_
    simp only [boolV_bool, bcase_true, bcase_false, need, Tryz.zero36, reads_nil, Tryz.fa57_2, addr_add, Tryz.agg4, Tryz.size36, reads_not, Tryz.fa57_1, Tryz.agg3, Tryz.agg36, c3.ld1, Nat.zero_add]
    refine bcase_of (fun hd => ?_) (fun hd => ?_)
    · rw [if_neg (by simpa using hd)] at hk3
      exact fail_spec (code := 9) c3 (by omega) (by omega) fun e h' hf f => hk3 e h' (hf.more (by omega)) (f3.trans (f.less (by omega)))
    · rw [if_pos (by simpa using hd)] at hk3
      refine load_all hv (by rw [Tryz.agg36]; simp [ht.len]) ?_
      refine ret_re (Q := fun b => h1.size < b) hb hcs (fun x hx => by omega) ht fun h5 hu5 ht5 => ?_
      exact hk3 h5 vs (f3.trans (Fm.upd hu5 (.inl (Nat.le_refl _)))) (c3.upd hu5 c.nle (by omega)) (ht5.frame fun b hb _ => ⟨by omega, rfl⟩)
end Rt
end Go.Proofs

set_option maxRecDepth 100000
namespace Go.Vcg
variable {P : Program}

/-- a piece of an activation that defers: what comes behind it, and what is known of the slots -/
def looksK (outs : List Nat) (rets : List Nat) (kn kr : List Value → Heap → Prop) : Exit → Fr → Heap → Prop
  | .normal, fr, h => need (looks fr outs) fun vs => kn vs h
  | .ret, fr, h => need (looks fr rets) fun vs => kr vs h
  | _, _, _ => False
theorem looks_agrees {D : List Deferred} {n : Nat} {a : Act} {fr : Fr} {outs : List Nat} {vs : List Value} (ha : Agrees D n a fr) (hl : looks fr outs = some vs) : Agrees D n a (zipF outs vs []) :=
  looks_zip ha.defers ha.size (fun t v h => by cases h) hl ha
theorem piece {H : Hints} {E : List PanicEntry → Heap → Prop} {D : List Deferred} {n : Nat} {w₀ : World} {c1 c2 : Code} {Q : Exit → Act → World → Prop} {outs rets : List Nat} {kn kr : List Value → Heap → Prop}
    (hm : P.follows .mixedOrders = true) {fr : Fr} {a : Act} {w : World} (hok : okCode n c1 = true) (ha : Agrees D n a fr) (hw : Same w₀ w) (hv : vc P H E c1 fr w.heap (looksK outs rets kn kr))
    (hE : ∀ c a w, Same w₀ w → E c w.heap → a.defers = D → Q (.panic c) a w) (hr : ∀ vs a w, Agrees D n a (zipF rets vs []) → Same w₀ w → kr vs w.heap → Q .ret a w)
    (hn : ∀ vs a w, Agrees D n a (zipF outs vs []) → Same w₀ w → kn vs w.heap → c2.wp P Q a w) : (Code.seq c1 c2).wp P Q a w := by
  refine wp_seq (wp_mono (vc_sound (w₀ := w₀) (E := E) hm c1 _ _ _ w hok ha hw hv) ?_)
  intro e a' w' ho
  cases e with
  | panic c => exact hE c a' w' ho.1 ho.2.1 ho.2.2
  | normal =>
    obtain ⟨h1, _, fr', h3, h4⟩ := ho
    obtain ⟨vs, hl, hk⟩ := need_elim h4
    exact hn vs a' w' (looks_agrees h3 hl) h1 hk
  | ret =>
    obtain ⟨h1, _, fr', h3, h4⟩ := ho
    obtain ⟨vs, hl, hk⟩ := need_elim h4
    exact hr vs a' w' (looks_agrees h3 hl) h1 hk
  | exit id => obtain ⟨_, _, fr, _, h4⟩ := ho; exact h4.elim
  | goto l => obtain ⟨_, _, fr, _, h4⟩ := ho; exact h4.elim
  | outgrown => obtain ⟨_, _, fr, _, h4⟩ := ho; exact h4.elim
theorem last_piece {H : Hints} {E : List PanicEntry → Heap → Prop} {D : List Deferred} {n : Nat} {w₀ : World} {c1 : Code} {Q : Exit → Act → World → Prop} {outs rets : List Nat} {kn kr : List Value → Heap → Prop}
    (hm : P.follows .mixedOrders = true) {fr : Fr} {a : Act} {w : World} (hok : okCode n c1 = true) (ha : Agrees D n a fr) (hw : Same w₀ w) (hv : vc P H E c1 fr w.heap (looksK outs rets kn kr))
    (hE : ∀ c a w, Same w₀ w → E c w.heap → a.defers = D → Q (.panic c) a w) (hr : ∀ vs a w, Agrees D n a (zipF rets vs []) → Same w₀ w → kr vs w.heap → Q .ret a w)
    (hn : ∀ vs a w, Agrees D n a (zipF outs vs []) → Same w₀ w → kn vs w.heap → Q .normal a w) : c1.wp P Q a w := by
  refine wp_mono (vc_sound (w₀ := w₀) (E := E) hm c1 _ _ _ w hok ha hw hv) ?_
  intro e a' w' ho
  cases e with
  | panic c => exact hE c a' w' ho.1 ho.2.1 ho.2.2
  | normal =>
    obtain ⟨h1, _, fr', h3, h4⟩ := ho
    obtain ⟨vs, hl, hk⟩ := need_elim h4
    exact hn vs a' w' (looks_agrees h3 hl) h1 hk
  | ret =>
    obtain ⟨h1, _, fr', h3, h4⟩ := ho
    obtain ⟨vs, hl, hk⟩ := need_elim h4
    exact hr vs a' w' (looks_agrees h3 hl) h1 hk
  | exit id => obtain ⟨_, _, fr, _, h4⟩ := ho; exact h4.elim
  | goto l => obtain ⟨_, _, fr, _, h4⟩ := ho; exact h4.elim
  | outgrown => obtain ⟨_, _, fr, _, h4⟩ := ho; exact h4.elim
def cHead : Code → Code
  | .seq a _ => a
  | c => c
def cTail : Code → Code
  | .seq _ b => b
  | c => c
end Go.Vcg
namespace Go.Proofs
open Go.Vcg
namespace Rt
attribute [local congr] Reads.congr ReadsS.congr pLoad.congr pLoadS.congr pStore.congr Runs.congr CallsH.congr bcase.congr boolV.congr Stable.congr pAlloc.congr
variable {S : Glb} {n : Nat} {h : Heap} {r : Nat} {bv : Value} {l : List UInt8} {p : Nat} {ext : Bool} {op gr : Nat} {R : Value → Heap → Prop} {E : List PanicEntry → Heap → Prop}
def H11A : Hints := { r := fun _ => none, s := fun _ => none, l := fun _ => none, d := fun _ => none }
def S11A (P : Program) (E : List PanicEntry → Heap → Prop) (t0 t1 : Value) (h : Heap) (k : List Value → Heap → Prop) : Prop :=
  pAlloc P 24 h fun t4 h1 =>
  pAlloc P 26 h1 fun t5 h2 =>
  k [t0, t1, t4, t5] h2
def H11B : Hints := { r := fun _ => none, s := fun _ => none, l := fun _ => none, d := fun _ => none }
def S11B (P : Program) (E : List PanicEntry → Heap → Prop) (t0 t1 t4 t5 : Value) (h : Heap) (k : List Value → Heap → Prop) : Prop :=
  Reads P (Instr.build 57 #[(0, t0), (2, t1)]) h fun t10 =>
  pNew 57 t10 h fun t11 h1 =>
  k [t0, t1, t4, t5, t11] h1
def H11C : Hints := { r := fun _ => none, s := fun _ => none, l := fun _ => none, d := fun _ => none }
def S11C (P : Program) (E : List PanicEntry → Heap → Prop) (t0 t1 t4 t5 t6 : Value) (h : Heap) (k : List Value → Heap → Prop) : Prop :=
  Reads P (builtinS .len #[29] 3 #[t0]) h fun t13 =>
  Reads P (binS .gtr 3 true t13 (.int .i64 256)) h fun t14 =>
  boolV t14 fun b1 => bcase b1 (
    CallsH P 27 #[(.int .i64 2)] h (fun t15 h1 =>
    CallsH P 26 #[t15, (.int .i64 0)] h1 (fun t16 h2 =>
    CallsH P 28 #[t6] h2 (fun t18 h3 =>
    CallsH P 25 #[t16, t18] h3 (fun t19 h4 =>
    pStore P 24 t4 (.pointer none) h4 fun h5 =>
    pStore P 26 t5 t19 h5 fun h6 =>
    False) E) E) E) E) (
    k [t0, t1, t4, t5, t6] h)
def H11E : Hints := { r := fun _ => none, s := fun _ => none, l := fun _ => none, d := fun i => match i with | 6 => some (.cut 1 (.take 0 (.take 1 (.take 2 (.take 3 (.take 4 (.take 5 (.take 6 (.cut 0 (.act 7 (.cut 0 (.act 8 (.cut 0 (.act 9 .done .stop)) .stop)) .stop)))))))))) | _ => none }
def S11E (P : Program) (E : List PanicEntry → Heap → Prop) (t0 t1 t4 t5 t6 : Value) (h : Heap) (k : List Value → Heap → Prop) : Prop :=
  CallsH P 31 #[t6] h (fun t22 h1 =>
  pAlloc P 36 h1 fun t7 h2 =>
  pStore P 36 t7 t22 h2 fun h3 =>
  pLoad P 36 t7 h3 fun t23 =>
  Reads P (nilS t6) h3 fun t25 =>
  Reads P (Instr.fieldAt 57 t25 4) h3 fun t26 =>
  pLoad P 3 t26 h3 fun t27 =>
  Reads P (Instr.build 66 #[(0, t23), (1, t27), (2, t1)]) h3 fun t29 =>
  (pNew 66 t29 h3 fun t30 h4 =>
  True ∧ ((pStore P 24 t4 t30 h4 fun h5 =>
  True ∧ ((pStore P 26 t5 .nilIface h5 fun h6 =>
  True ∧ (k [t4, t5] h6)) ∧ True)) ∧ True)) ∧ True) E
noncomputable def body11 : Code := Tryz.f11.body.getD .skip
noncomputable def c11A : Code := cHead body11
noncomputable def c11B : Code := cHead (cTail body11)
noncomputable def c11C : Code := cHead (cTail (cTail body11))
noncomputable def c11D : Code := cHead (cTail (cTail (cTail body11)))
noncomputable def c11E : Code := cTail (cTail (cTail (cTail body11)))
theorem body11_eq : Tryz.f11.body = some (.seq c11A (.seq c11B (.seq c11C (.seq c11D c11E)))) := by kernel_rfl
theorem V11A {E : List PanicEntry → Heap → Prop} {t0 t1 : Value} {h : Heap} {k k' : List Value → Heap → Prop} : S11A Tryz.prog E t0 t1 h k = vc Tryz.prog H11A E c11A (enumF 0 [t0, t1]) h (looksK [0, 1, 4, 5] [] k k') := by kernel_rfl
theorem V11B {E : List PanicEntry → Heap → Prop} {t0 t1 t4 t5 : Value} {h : Heap} {k k' : List Value → Heap → Prop} : S11B Tryz.prog E t0 t1 t4 t5 h k = vc Tryz.prog H11B E c11B (zipF [0, 1, 4, 5] [t0, t1, t4, t5] []) h (looksK [0, 1, 4, 5, 6] [] k k') := by kernel_rfl
theorem V11C {E : List PanicEntry → Heap → Prop} {t0 t1 t4 t5 t6 : Value} {h : Heap} {k : List Value → Heap → Prop} : S11C Tryz.prog E t0 t1 t4 t5 t6 h k = vc Tryz.prog H11C E c11C (zipF [0, 1, 4, 5, 6] [t0, t1, t4, t5, t6] []) h (looksK [0, 1, 4, 5, 6] [] k (fun _ _ => False)) := by kernel_rfl
theorem V11E {E : List PanicEntry → Heap → Prop} {t0 t1 t4 t5 t6 : Value} {h : Heap} {k : List Value → Heap → Prop} : S11E Tryz.prog E t0 t1 t4 t5 t6 h k = vc Tryz.prog H11E E c11E (zipF [0, 1, 4, 5, 6] [t0, t1, t4, t5, t6] []) h (looksK [] [4, 5] (fun _ _ => False) k) := by kernel_rfl
end Rt
end Go.Proofs

set_option maxRecDepth 100000
namespace Go.Proofs
open Go.Vcg
namespace Rt
attribute [local congr] Reads.congr ReadsS.congr pLoad.congr pLoadS.congr pStore.congr Runs.congr CallsH.congr bcase.congr boolV.congr Stable.congr pAlloc.congr
variable {S : Glb} {n : Nat} {h : Heap} {r : Nat} {bv : Value} {l : List UInt8} {p : Nat} {ext : Bool} {op gr : Nat} {R : Value → Heap → Prop} {E : List PanicEntry → Heap → Prop}

theorem look_mem : ∀ {fr : Fr} {t : Nat} {v : Value}, Vcg.look fr t = some v → (t, v) ∈ fr
  | [], _, _, h => by cases h
  | (d, u) :: fr, t, v, h => by
    simp only [Vcg.look] at h
    split at h
    · rename_i hb
      have : d = t := Nat.eq_of_beq_eq_true hb
      cases h
      subst this
      exact List.mem_cons_self
    · exact List.mem_cons_of_mem _ (look_mem h)
theorem agrees_of {D : List Deferred} {n : Nat} {a : Act} {fr : Fr} (hd : a.defers = D) (hs : a.tmps.size = n) (h : ∀ q ∈ fr, a.tmps[q.1]? = some q.2) : Agrees D n a fr :=
  ⟨hd, hs, fun t v hl => h (t, v) (look_mem hl)⟩

def ops11D : Array Oper := #[
  { dst := some 20, op := .makeFunc (.func 29) #[] #[.tmp 4, .tmp 5], type := 1, pos := "retext.go:88", after := #[], guard := none },
  { dst := none, op := .defer { callee := .value (.tmp 20), args := #[], argTypes := #[] }, type := 0, pos := "retext.go:88", after := #[{ on := 0, ground := .data }], guard := none }]
theorem c11D_eq : c11D = .region 4 ops11D false := by kernel_rfl
theorem defer_wp {Q : Exit → Act → World → Prop} {a : Act} {w : World} {x y : Value} (h4 : a.tmps[4]? = some x) (h5 : a.tmps[5]? = some y) (hs : 20 < a.tmps.size)
    (hq : Q .normal { tmps := a.tmps.setIfInBounds 20 (.func (.func 29) #[] #[x, y]), defers := { target := .fn (.func 29) #[x, y], args := #[] } :: a.defers } w) : c11D.wp Tryz.prog Q a w := by
  rw [c11D_eq]
  refine wp_region ?_
  have e : List.range ops11D.size = [0, 1] := rfl
  rw [e]
  simp only [wpOps, ops11D]
  simp [Region.wanted, Oper.wp, execOp, Instr.makeFunc, Oper.upon, resolve, Deferred.ofValue, Act.eval, Act.put, h4, h5, hs]
  exact .inl (.inl hq)

noncomputable def body29 : Code := Tryz.f29.body.getD .skip
noncomputable def c29B : Code := cHead (cTail body29)
noncomputable def c29C : Code := match cTail (cTail body29) with | .cond _ x _ => x | c => c
def ops29A : Array Oper := #[
  { dst := some 6, op := .call { callee := .builtin .recover, args := #[], argTypes := #[] }, type := 20, pos := "retext.go:89", after := #[], guard := none },
  { dst := some 2, op := .assign (.tmp 6), type := 20, pos := "retext.go:89", after := #[{ on := 0, ground := .data }, { on := 0, ground := .chain }, { on := 0, ground := .phase }], guard := none }]
theorem body29_eq : Tryz.f29.body = some (.seq (.region 0 ops29A false) (.seq c29B (.cond (.tmp 8) c29C .skip))) := by kernel_rfl
def H29B : Hints := { r := fun _ => none, s := fun _ => none, l := fun _ => none, d := fun _ => none }
theorem V29B {E : List PanicEntry → Heap → Prop} {t2 : Value} {h : Heap} {k k' : List Value → Heap → Prop} :
    (Reads Tryz.prog (binS .neq 20 true t2 .nilIface) h fun t8 => k [t8] h) = vc Tryz.prog H29B E c29B (zipF [2] [t2] []) h (looksK [8] [] k k') := by kernel_rfl

/-- nothing has panicked: the closure does nothing -/
theorem closure_quiet {x y : Value} {w : World} : CallsD Tryz.prog 29 #[x, y] .returning w fun e u' w' => e = .returned (.tuple #[]) ∧ u' = .returning ∧ Same w w' ∧ w'.heap = w.heap := by
  refine callsD_of_wpS Tryz.func29 body29_eq fun c₀ cs hm => ?_
  refine wpS_seq (wpS_region ?_)
  have e : List.range ops29A.size = [0, 1] := rfl
  rw [e]
  have hr : recoverD (c₀ :: cs) = none := by simp [recoverD, hm]
  have en : Tryz.f29.ntmps = 21 := by kernel_rfl
  simp only [wpOpsS, ops29A]
  simp [Region.wanted, execOp, resolve, invoke, builtin, hr, Oper.upon, Act.eval, Act.put, en]
  refine wpS_seq (wpS_of_wp ?_)
  have ha : Agrees [] 21 { tmps := #[x, y] ++ ((Array.replicate 19 undef).setIfInBounds 4 .nilIface).setIfInBounds 0 .nilIface, defers := [] } (zipF [2] [.nilIface] []) := by
    exact agrees_of rfl (by simp) (by simp [zipF])
  have hv : vc Tryz.prog H29B (fun _ _ => False) c29B (zipF [2] [Value.nilIface] []) w.heap (looksK [8] [] (fun vs h' => vs = [Value.bool false] ∧ h' = w.heap) fun _ _ => False) := by
    rw [← V29B, Tryz.neq20_n]
    exact ⟨rfl, rfl⟩
  refine last_piece (H := H29B) (E := fun _ _ => False) (w₀ := w) Tryz.mixed (n := 21) (by kernel_rfl) ha (Same.refl w) hv (fun _ _ _ _ h _ => h.elim) (fun _ _ _ _ _ h => h.elim) ?_
  rintro vs a' w' ha' hw' ⟨rfl, hh⟩
  have h8 : a'.eval (.tmp 8) = .bool false := ha'.eval (x := .tmp 8) rfl
  refine wpS_of_wp (wp_cond_false h8 (wp_skip ?_))
  refine ⟨ha'.defers, .returning, by rw [← hm], ?_⟩
  refine ⟨.tuple #[], ?_, rfl, rfl, hw', hh⟩
  have er : Tryz.f29.results = #[] := by kernel_rfl
  simp [results, er]
end Rt
end Go.Proofs
