/- A part of the proofs over this seat: VcgP. -/
import Derived.Test.YtlgflejdbgoinaaGreatDoorSkF
import Derived.Test.YtlgflejdbgoinaaGreatDoorVcg
set_option linter.unusedVariables false
set_option linter.unusedSimpArgs false
set_option maxRecDepth 100000
namespace Go.Proofs
open Go.Vcg Go.Extern
namespace Rt
attribute [local congr] Reads.congr ReadsS.congr pLoad.congr pLoadS.congr pStore.congr Runs.congr CallsH.congr bcase.congr boolV.congr Stable.congr pAlloc.congr
variable {S : Glb} {n : Nat} {h : Heap} {r : Nat} {ov : Value} {l : List Op} {p op : Nat} {ac : Bool} {R : Value → Heap → Prop} {E : List PanicEntry → Heap → Prop}

theorem bd40s {K : IntKind} {m : Int} {s : Op} {k : Value → Prop} : Reads Tryz.prog (Instr.build 40 #[(0, .int K m), (1, str s)]) h k = k (.agg #[.int K m, str s, .int .i64 0, .int .i64 0, .bool false, .slice none 0 0, .slice none 0 0]) := Tryz.bd40_0_1
theorem Cx.act {h' : Heap} {ac' : Bool} (c : Cx S n h r ov l p op ac) (hu : Upd h h' r (.cells #[ov, .int .i64 p, .int .i64 op, .bool ac'] 63 (0, 0))) : Fm h.size r h h' ∧ Cx S n h' r ov l p op ac' :=
  ⟨Fm.upd hu (.inr rfl), c.on (Fm.upd hu (.inr rfl)) hu.same c.le c.opg⟩
theorem Cx.ops {h' : Heap} {op' : Nat} (c : Cx S n h r ov l p op ac) (hu : Upd h h' r (.cells #[ov, .int .i64 p, .int .i64 op', .bool ac] 63 (0, 0))) (ho : op' ≤ p) : Fm h.size r h h' ∧ Cx S n h' r ov l p op' ac :=
  ⟨Fm.upd hu (.inr rfl), c.on (Fm.upd hu (.inr rfl)) hu.same c.le ho⟩
theorem agg_leaf {k : Nat} {tx : Op} : Value.agg #[.int .i64 k, str tx, .int .i64 0, .int .i64 0, .bool false, .slice none 0 0, .slice none 0 0] = .agg (skL k tx 0 0 false (.slice none 0 0) (.slice none 0 0)).toArray := rfl
theorem Wo.leaf {h0 : Heap} {b4 k : Nat} {tx : Op} (w : Wo S n h0 h r ov l p op ac b4) (hk : Owes S n h0 r ov l op (.ok (leafU k tx 0 0 false, p, ac)) R E) :
    pStore Tryz.prog 40 (.pointer (some ⟨b4, 0, none⟩)) (.agg #[.int .i64 k, str tx, .int .i64 0, .int .i64 0, .bool false, .slice none 0 0, .slice none 0 0]) h fun h' => pLoad Tryz.prog 40 (.pointer (some ⟨b4, 0, none⟩)) h' fun r => R r h' := by
  rw [agg_leaf]
  exact w.ret IsSk.leaf hk

theorem factor_spec {k : Nat} (hF : FactorOk k) (hE : ExprOk k) : FactorOk (k + 1) := by
  intro S n h r ov l p op ac R E c hk
  refine C58 ?_
  unfold S58
  refine alloc_rule Tryz.zero40 fun h1 a1 => ?_
  have s1 := a1.size
  have hr := c.rlt
  have hl := c.len
  have hop := c.opg
  have w1 : Wo S n h h1 r ov l p op ac h.size := ⟨Fm.al a1 (Nat.le_refl _), c.al a1, c.nle, hr, ⟨_, a1.at_, rfl⟩, Nat.le_refl _⟩
  simp only [reads_nil, Tryz.fa63_1, addr_add, w1.cx.ld1, Nat.zero_add]
  refine Join0.intro (fun h' => ∃ q ac', Wo S n h h' r ov l q op ac' h.size ∧ Owes S n h r ov l op (.bad 3 p) R E) ?_ ?_
  · refine w1.next hk (fun hm => by unfold factorM; rw [hm]) fun hp h2 w2 f2 => ?_
    have hs2 := w2.fm.size
    have hsl : l[p].length ≤ 1024 := c.sh _ (List.getElem_mem hp)
    unfold factorM at hk
    rw [List.getElem?_eq_getElem hp] at hk
    simp only at hk
    generalize l[p] = s at *
    rw [reads_seq, boolV_bool]
    refine bcase_of (fun hc => ?_) (fun hc => ?_)
    · rw [if_pos (of_decide_eq_true hc)] at hk
      refine hF w2.cx ?_
      cases hm : factorM k l (p + 1) op ac with
      | out => rw [hm] at hk; exact hk
      | bad a b => rw [hm] at hk; exact fun e h3 hf f3 => hk e h3 (hf.more (by omega)) (w2.fm.trans (f3.less (by omega)))
      | ok x =>
        obtain ⟨t, p', ac'⟩ := x
        rw [hm] at hk
        intro h3 vs f3 c3 ht
        have w3 := w2.rdr f3 c3
        have hs3 := w3.fm.size
        obtain ⟨cs, e1, e2⟩ := w2.c4
        have l4 := at_lt e1
        have fs3 := f3.size
        refine slice1_rule Tryz.info40 Tryz.underlying38 (by simp [Value.cells, ht.len]) (by omega) (by omega) fun h4 a4 => ?_
        rw [Tryz.bd40_0_6]
        have w4 := w3.fr (Fm.al a4 (Nat.le_refl _))
        refine w4.ret (t := .node 3 [] 0 0 false [] [t]) (vs := skL 3 [] 0 0 false (.slice none 0 0) (.slice (some ⟨h3.size, 0, none⟩) 1 1)) ?_ hk
        exact IsSk.kid (vs := vs) a4.at_ ⟨by omega, by omega⟩ (ht.frame fun b hb hlt => ⟨⟨by omega, by omega⟩, a4.old b hlt⟩)
    rw [reads_seq, boolV_bool]
    rw [if_neg (of_decide_eq_false hc)] at hk
    clear hc
    refine bcase_of (fun hc => ?_) (fun hc => ?_)
    · rw [if_pos (of_decide_eq_true hc)] at hk
      simp only [reads_nil, Tryz.fa63_2, addr_add, w2.cx.ld2, Nat.zero_add, reads_add, wrap_n1 op (by omega)]
      refine store1 w2.cx.rd Tryz.size3 rfl (by simp) fun h3 u3 => ?_
      obtain ⟨f3, c3⟩ := w2.cx.ops (op' := op + 1) u3 (by omega)
      have w3 := w2.rdr f3 c3
      have hs3 := w3.fm.size
      refine hE c3 ?_
      cases hm : exprM k l (p + 1) (op + 1) ac with
      | out => rw [hm] at hk; exact hk
      | bad a b => rw [hm] at hk; exact fun e h3 hf f3 => hk e h3 (hf.more (by omega)) (w3.fm.trans (f3.less (by omega)))
      | ok x =>
        obtain ⟨t, p', ac'⟩ := x
        rw [hm] at hk
        intro h4 vs f4 c4 ht
        refine alloc_rule Tryz.zero40 fun h5 a5 => ?_
        refine first_wk w3 f4 c4 ht rfl a5 fun h6 w6 ht6 => ?_
        unfold parM at hk
        simp only at hk
        refine Join0.intro (fun h' => isO l [41] p' = true ∧ Fm h6.size r h6 h' ∧ Wk S n h h' r ov l (p' + 1) (op + 1) ac' h.size h4.size vs) ?_ ?_
        · refine take_spec w6.cx (fun hy h7 f7 c7 => ?_) (fun hn => ?_)
          · simp only [reads_not, boolV_bool, Bool.not_true, bcase_false]
            exact ⟨hy, f7, w6.rdr f7 c7⟩
          · simp only [reads_not, boolV_bool, Bool.not_false, bcase_true]
            rw [if_neg (by simp [hn])] at hk
            simp only [reads_nil, Tryz.fa63_0, addr_add, w6.cx.ld0, Nat.zero_add, reads_olen w6.cx.by_]
            exact w6.fail (code := 9) (by omega) (by omega) hk
        · rintro h7 ⟨hy, f7, w7⟩
          rw [if_pos hy] at hk
          have hop7 := w7.cx.opg
          have hle7 := w7.cx.le
          simp only [reads_nil, Tryz.fa63_2, addr_add, w7.cx.ld2, Nat.zero_add, reads_sub, wrap_s1 (op + 1) (by omega) (by omega), Nat.add_sub_cancel]
          refine store1 w7.cx.rd Tryz.size3 rfl (by simp) fun h8 u8 => ?_
          obtain ⟨f8, c8⟩ := w7.cx.ops (op' := op) u8 (by omega)
          have w8 := w7.rdr f8 c8
          have fs7 := f7.size
          refine w8.retT (ht6.frame fun b hb hlt => ⟨hb, ?_⟩) hk
          rw [f8.same b (by omega) (by omega), f7.same b hlt (by omega)]
    rw [reads_seq, boolV_bool]
    rw [if_neg (of_decide_eq_false hc)] at hk
    clear hc
    refine bcase_of (fun hc => ?_) (fun hc => ?_)
    · rw [if_pos (of_decide_eq_true hc)] at hk
      simp only [reads_nil, Tryz.fa63_2, addr_add, w2.cx.ld2, Nat.zero_add, reads_eq, boolV_bool]
      refine bcase_of (fun hc2 => ?_) (fun hc2 => ?_)
      · rw [if_pos (by have := of_decide_eq_true hc2; omega)] at hk
        exact w2.fail (code := 9) (by omega) (by omega) hk
      · rw [if_neg (by have := of_decide_eq_false hc2; omega)] at hk
        exact w2.fail (code := 3) (by omega) (by omega) hk
    rw [reads_seq, boolV_bool]
    rw [if_neg (of_decide_eq_false hc)] at hk
    clear hc
    unfold primM at hk
    -- -prune
    refine bcase_of (fun hc => ?_) (fun hc => ?_)
    · rw [if_pos (of_decide_eq_true hc)] at hk
      rw [Tryz.bd40_0]
      exact w2.leaf hk
    rw [reads_seq, boolV_bool]
    rw [if_neg (of_decide_eq_false hc)] at hk
    clear hc
    -- -print
    refine bcase_of (fun hc => ?_) (fun hc => ?_)
    · rw [if_pos (of_decide_eq_true hc)] at hk
      simp only [reads_nil, Tryz.fa63_3, addr_add, Nat.zero_add]
      refine store1 w2.cx.rd Tryz.size4 rfl (by simp) fun h3 u3 => ?_
      obtain ⟨f3, c3⟩ := w2.cx.act (ac' := true) u3
      rw [Tryz.bd40_0]
      exact (w2.rdr f3 c3).leaf hk
    rw [reads_seq, boolV_bool]
    rw [if_neg (of_decide_eq_false hc)] at hk
    clear hc
    -- -exec
    refine bcase_of (fun hc => ?_) (fun hc => ?_)
    · rw [if_pos (of_decide_eq_true hc)] at hk
      simp only [reads_nil, Tryz.fa63_3, addr_add, Nat.zero_add]
      refine store1 w2.cx.rd Tryz.size4 rfl (by simp) fun h3 u3 => ?_
      obtain ⟨f3, c3⟩ := w2.cx.act (ac' := true) u3
      exact exec_spec c3 ((w2.rdr f3 c3).back hk)
    rw [reads_seq, boolV_bool]
    rw [if_neg (of_decide_eq_false hc)] at hk
    clear hc
    -- -name
    refine bcase_of (fun hc => ?_) (fun hc => ?_)
    · rw [if_pos (of_decide_eq_true hc)] at hk
      refine w2.next hk (fun hm => by unfold nameM; rw [hm]) fun hp3 h3 w3 f3 => ?_
      have hs3 := w3.fm.size
      have hsl3 : l[p + 1].length ≤ 1024 := c.sh _ (List.getElem_mem hp3)
      unfold nameM at hk
      rw [List.getElem?_eq_getElem hp3] at hk
      simp only at hk
      generalize l[p + 1] = s3 at *
      refine runs_sbytes fun v h4 cap f4 hb hv hlt => ?_
      have w4 := w3.fr f4
      have hn4 := w4.cx.nle
      have hn22 := w4.cx.n22
      refine glob_spec w4.cx.gl (by omega) hb (fun b o m c e => by rw [hv] at e; injection e with e1; injection e1 with e1; injection e1 with e1; omega) (by omega) (fun hle h5 q f5 => ?_) (fun hgt h5 e ie f5 => ?_)
      · have w5 := w4.fr f5
        rw [reads_ext0, reads_ext1, Tryz.neq26_n, boolV_bool, bcase_false, bd40s]
        rw [if_neg (by omega)] at hk
        exact w5.leaf hk
      · have w5 := w4.fr f5
        rw [if_pos hgt] at hk
        have ie' := ie
        obtain ⟨a, b, ha, hb2, rfl, e1, e2⟩ := ie'
        rw [reads_ext0, reads_ext1, Tryz.neq26_s, boolV_bool, bcase_true]
        refine ⟨fun h' => h'[r]? = some (.cells #[ov, .int .i64 (p + 1 + 1 : Nat), .int .i64 op, .bool ac] 63 (0, 0)), w5.cx.rd, ?_⟩
        refine readsS_lift (v := ptr r) (fun h k => by rw [reads_nil]) ?_
        refine readsS_lift (v := .pointer (some ⟨r, 1, none⟩)) (fun h k => by rw [Tryz.fa63_1, addr_add]) ?_
        refine pLoadS_one Tryz.agg3 (v := .int .i64 (p + 1 + 1 : Nat)) (fun h hs => by rw [hcell_of hs]; rfl) ?_
        refine readsS_lift (v := .int .i64 (p + 1 : Nat)) (fun h k => by rw [reads_sub, wrap_s1 (p + 1 + 1) (by omega) (by omega), Nat.add_sub_cancel]) ?_
        have hn5 := w5.cx.nle
        refine ⟨tell_spec w5.cx.gl (by omega) ie (by omega) (by omega) fun h6 f6 => ?_, trivial⟩
        have w6 := w5.fr f6
        refine ⟨w6.cx.rd, ?_⟩
        refine readsS_lift (v := .int .i64 2) (fun h k => by unfold faultV; rw [show Reads Tryz.prog (Instr.field 42 (.agg #[.int .i64 (2 : Nat), .int .i64 (0 : Nat), .int .i64 (2 : Nat)]) 0) h k = k (.int .i64 2) from reads_pure fun w => rfl]) ?_
        exact ⟨w6.fail (code := 2) (by omega) (by omega) hk, trivial⟩
    rw [reads_seq, boolV_bool]
    rw [if_neg (of_decide_eq_false hc)] at hk
    clear hc
    -- -newer
    refine bcase_of (fun hc => ?_) (fun hc => ?_)
    · rw [if_pos (of_decide_eq_true hc)] at hk
      refine w2.next hk (fun hm => by unfold newerM; rw [hm]) fun hp3 h3 w3 f3 => ?_
      unfold newerM at hk
      rw [List.getElem?_eq_getElem hp3] at hk
      rw [bd40s]
      exact w3.leaf hk
    rw [reads_seq, boolV_bool]
    rw [if_neg (of_decide_eq_false hc)] at hk
    clear hc
    -- -type
    refine bcase_of (fun hc => ?_) (fun hc => ?_)
    · rw [if_pos (of_decide_eq_true hc)] at hk
      refine w2.next hk (fun hm => by unfold typeM; rw [hm]) fun hp3 h3 w3 f3 => ?_
      have hle3 := w3.cx.le
      unfold typeM at hk
      rw [List.getElem?_eq_getElem hp3] at hk
      simp only at hk
      generalize l[p + 1] = s3 at *
      refine Join1.intro (fun v h' => h' = h3 ∧ v = .bool (decide (s3 ≠ [102] ∧ s3 ≠ [100]))) ?_ ?_
      · rw [reads_sne, boolV_bool]
        refine bcase_of (fun hc => ?_) (fun hc => ?_)
        · rw [reads_sne]
          refine ⟨rfl, ?_⟩
          have : s3 ≠ [102] := by simpa using hc
          simp [this]
        · have : s3 = [102] := by simpa using hc
          exact ⟨rfl, by simp [this]⟩
      rintro _ h4 ⟨rfl, rfl⟩
      rw [boolV_bool]
      refine bcase_of (fun hc => ?_) (fun hc => ?_)
      · rw [if_pos (of_decide_eq_true hc)] at hk
        simp only [reads_nil, Tryz.fa63_1, addr_add, w3.cx.ld1, reads_sub, Nat.zero_add, wrap_s1 (p + 1 + 1) (by omega) (by omega), Nat.add_sub_cancel]
        exact w3.fail (code := 14) (by omega) (by omega) hk
      · rw [if_neg (of_decide_eq_false hc)] at hk
        rw [bd40s]
        exact w3.leaf hk
    rw [reads_seq, boolV_bool]
    rw [if_neg (of_decide_eq_false hc)] at hk
    clear hc
    -- -size
    refine bcase_of (fun hc => ?_) (fun hc => ?_)
    · rw [if_pos (of_decide_eq_true hc)] at hk
      exact number_spec (kind := 6) (.inl rfl) w2.cx (w2.back hk)
    rw [reads_seq, boolV_bool]
    rw [if_neg (of_decide_eq_false hc)] at hk
    clear hc
    -- -links
    refine bcase_of (fun hc => ?_) (fun hc => ?_)
    · rw [if_pos (of_decide_eq_true hc)] at hk
      exact number_spec (kind := 7) (.inr rfl) w2.cx (w2.back hk)
    rw [if_neg (of_decide_eq_false hc)] at hk
    exact ⟨_, _, w2, hk⟩
  · rintro h3 ⟨q, ac', w3, hk⟩
    exact w3.fail (code := 3) (by omega) (by omega) hk
theorem all_ok : ∀ k, FactorOk k ∧ TermOk k ∧ ExprOk k := by
  intro k
  induction k using Nat.strongRecOn with
  | _ k ih =>
    cases k with
    | zero => exact ⟨fun _ h => (show False from by unfold factorM at h; exact h).elim, fun _ h => (show False from by unfold termM at h; exact h).elim, fun _ h => (show False from by unfold exprM at h; exact h).elim⟩
    | succ k => exact ⟨factor_spec (ih k (by omega)).1 (ih k (by omega)).2.2, term_spec fun j hj => (ih j (by omega)).1, expr_spec fun j hj => (ih j (by omega)).2.1⟩
end Rt
end Go.Proofs

set_option maxRecDepth 100000
namespace Go.Vcg
variable {D : List Deferred}
theorem put_size (a : Act) (d : Option Tmp) (v : Value) : (a.put d v).tmps.size = a.tmps.size := by cases d <;> simp [Act.put]
theorem Keeps.unput {ds : List Nat} {a b : Act} {d : Option Nat} {v : Value} (h : Keeps ds a (b.put d v)) (hd : ∀ t, d = some t → t ∈ ds) : Keeps ds a b := by
  cases d with
  | none => exact h
  | some d =>
    refine ⟨fun t ht => ?_⟩
    have hne : d ≠ t := fun e => ht (e ▸ hd d rfl)
    have := h.vals t ht
    simp only [Act.put] at this
    rwa [Array.getElem?_setIfInBounds_ne hne] at this
theorem vcOps_soundP {P : Program} {E : List PanicEntry → Heap → Prop} {ops : Array Oper} {n : Nat} {w₀ : World} {Q : Exit → Act → World → Prop} {K : Fr → Heap → Prop} {ds : List Nat} {a₀ : Act}
    (hK : ∀ a fr w, Agrees D n a fr → Same w₀ w → Keeps ds a₀ a → K fr w.heap → Q .normal a w) (hE : ∀ c a w, Same w₀ w → E c w.heap → a.defers = D → a.tmps.size = n → Keeps ds a₀ a → Q (.panic c) a w) :
    ∀ (l : List Oper) (k : Nat), (∀ j, l[j]? = ops[k + j]?) → l.all (okOper n) = true → (∀ o ∈ l, ∀ d, o.dst = some d → d ∈ ds) → ∀ (sk : List Nat) (a : Act) (fr : Fr) (w : World), Agrees D n a fr → Same w₀ w →
      Keeps ds a₀ a → vcOps P E ops l sk fr w.heap K → wpOps P ops Q (List.range' k l.length) a w := by
  intro l
  induction l with
  | nil => intro k _ _ _ sk a fr w ha hw hkp h; exact hK a fr w ha hw hkp h
  | cons o l ih =>
    intro k hk hok hds sk a fr w ha hw hkp h
    simp only [List.all_cons, Bool.and_eq_true] at hok
    have h0 : ops[k]? = some o := by simpa using (hk 0).symm
    have ih' := ih (k + 1) (fun j => by have := hk (j + 1); simpa [Nat.add_assoc, Nat.add_comm 1 j] using this) hok.2 (fun o ho => hds o (List.mem_cons_of_mem _ ho))
    have hdo := hds o (List.mem_cons_self ..)
    simp only [List.length_cons, List.range'_succ, wpOps, h0]
    simp only [vcOps] at h
    obtain ⟨fr', ha', hc⟩ := vcG_elim ha h
    rcases hc with ⟨hwant, hA⟩ | ⟨hwant, hB⟩
    · simp only [hwant, if_true]
      refine .inl (vcOp_sound ha' (fun v w' hs hk' => ?_) (fun c w' hs he => hE c a w' (hw.trans hs) he ha.defers ha.size hkp) hA)
      exact ih' _ _ _ _ (ha'.put (okOper_spec hok.1)) (hw.trans hs) (hkp.put hdo v) hk'
    · simp only [hwant, Bool.false_eq_true, if_false]
      exact ih' _ _ _ _ (ha'.put (okOper_spec hok.1)) hw (hkp.put hdo _) hB

def LooseP (D : List Deferred) (n : Nat) (ds : List Nat) (a₀ : Act) (w₀ : World) (E : List PanicEntry → Heap → Prop) (Q : Exit → Act → World → Prop) : Exit → Act → World → Prop
  | .panic c, a, w => Same w₀ w ∧ E c w.heap ∧ a.defers = D ∧ a.tmps.size = n ∧ Keeps ds a₀ a
  | e, a, w => Q e a w

theorem vcDraw_soundP {P : Program} {E : List PanicEntry → Heap → Prop} {ops : Array Oper} {n : Nat} {w₀ : World} {Q : Exit → Act → World → Prop} {K : Fr → Heap → Prop}
    {ds : List Nat} {a₀ : Act} (hsel : Region.noSelect ops = true) (hok : ∀ o ∈ ops, okOper n o = true) (hds : ∀ o ∈ ops, ∀ d, o.dst = some d → d ∈ ds)
    (hK : ∀ a fr w, Agrees D n a fr → Same w₀ w → Keeps ds a₀ a → K fr w.heap → Q .normal a w) :
    ∀ (ord : Ord) (S : Stab) (L listed : Array Bool) (sk : List Nat) (a : Act) (fr : Fr) (w : World), outOk ops L = true → Dc ops listed → Agrees D n a fr → Same w₀ w → Keeps ds a₀ a → S.P w.heap →
      (∀ fuel, ord.depth ≤ fuel → vcDraw P E ops ord true S L listed sk fr w.heap K →
        wpSeg P ops (LooseP D n ds a₀ w₀ E Q) (fun w => Same w₀ w ∧ S.P w.heap) L (fun f a w => wpAny P .any ops (LooseP D n ds a₀ w₀ E Q) f L a w) fuel listed a w) ∧
      (∀ fuel, ord.depth ≤ fuel + 1 → vcDraw P E ops ord false S L listed sk fr w.heap K → (∀ j ∈ ord.idxs, j ∈ Region.ready .any ops listed) → ∀ j ∈ ord.idxs,
        wpOp P ops (LooseP D n ds a₀ w₀ E Q) j (fun a' w' => (Same w₀ w' ∧ S.P w'.heap) ∧
          wpSeg P ops (LooseP D n ds a₀ w₀ E Q) (fun w => Same w₀ w ∧ S.P w.heap) L (fun f a w => wpAny P .any ops (LooseP D n ds a₀ w₀ E Q) f L a w) fuel (listed.setIfInBounds j true) a' w') a w) := by
  intro ord
  induction ord with
  | done =>
    intro S L listed sk a fr w hout hdc ha hw hkp hS
    refine ⟨fun fuel _ h => ?_, fun fuel _ h _ j hj => by cases hj⟩
    simp only [vcDraw] at h
    split at h
    · rename_i hr
      simp only [Bool.and_eq_true] at hr
      obtain ⟨hr, he⟩ := hr
      obtain rfl := eqB_arr he
      have hr' : Region.ready .any ops listed = [] := by
        cases hl : Region.ready .any ops listed with
        | nil => rfl
        | cons x l => rw [hl] at hr; cases hr
      exact seg_here fuel (wpAny_done (Q := LooseP D n ds a₀ w₀ E Q) hr' (hK a fr w ha hw hkp h) fuel)
    · exact h.elim
  | stop =>
    intro S L listed sk a fr w hout hdc ha hw hkp hS
    exact ⟨fun fuel _ h => h.elim, fun fuel _ h => h.elim⟩
  | cut m r ih =>
    intro S L listed sk a fr w hout hdc ha hw hkp hS
    refine ⟨fun fuel hf h => ?_, fun fuel _ h _ j hj => by cases hj⟩
    simp only [vcDraw] at h
    split at h
    · exact h.elim
    · rename_i hc
      simp only [Bool.and_eq_true] at hc
      obtain ⟨he, hout'⟩ := hc
      obtain rfl := eqB_arr he
      refine seg_here fuel ?_
      have go : ∀ S' : Stab, S'.P w.heap → vcDraw P E ops r true S' (r.seg listed) listed sk fr w.heap K → wpAny P .any ops (LooseP D n ds a₀ w₀ E Q) fuel listed a w := by
        intro S' hS' hv
        exact seg_any (fun _ _ _ h => h) fuel listed a w ((ih S' (r.seg listed) listed sk a fr w hout' hdc ha hw hkp hS').1 fuel hf hv)
      split at h
      · exact go (.holds fun _ => True) trivial h
      · exact go (.same w.heap) rfl h
      · obtain ⟨S', hS', hv⟩ := h
        exact go (.holds S') hS' hv
  | take i r ih =>
    intro S L listed sk a fr w hout hdc ha hw hkp hS
    refine ⟨fun fuel hf h => ?_, fun fuel _ h _ j hj => by cases hj⟩
    simp only [Ord.depth] at hf
    obtain ⟨fuel, rfl⟩ : ∃ g, fuel = g + 1 := ⟨fuel - 1, by omega⟩
    have hf' : r.depth ≤ fuel := by omega
    simp only [vcDraw] at h
    split at h
    · exact h.elim
    · rename_i o ho
      have hoko := okOper_spec (hok o (Array.mem_of_getElem? ho))
      have hdo := hds o (Array.mem_of_getElem? ho)
      split at h
      · rename_i hc
        simp only [Bool.and_eq_true] at hc
        obtain ⟨⟨hfree, hcon⟩, hLi⟩ := hc
        obtain ⟨fr', ha', hcase⟩ := vcG_elim ha h
        have hQ : ∀ v c a w, LooseP D n ds a₀ w₀ E Q (.panic c) (a.put o.dst v) w → LooseP D n ds a₀ w₀ E Q (.panic c) a w := by
          intro v c a w q
          exact ⟨q.1, q.2.1, by have := q.2.2.1; rwa [Act.put_defers'] at this, by have := q.2.2.2.1; rwa [put_size] at this, q.2.2.2.2.unput hdo⟩
        rcases hcase with ⟨hwant, hA⟩ | ⟨hwant, hB⟩
        · obtain ⟨v, hv, hk⟩ := vcRd_sound ha' hA
          refine seg_first (v := v) ho (Region.noSelect_spec hsel) (hQ v) hLi hout fuel listed a w (Region.free_spec ho hfree) hdc (by simpa using hcon) (.inl ⟨hwant, fun w hw => hv w hw.2⟩) ⟨hw, hS⟩ ?_
          exact (ih S L _ _ _ _ _ hout (hdc.set (by simpa using hcon)) (ha'.put hoko) hw (hkp.put hdo v) hS).1 fuel hf' hk
        · refine seg_first (v := undef) ho (Region.noSelect_spec hsel) (hQ undef) hLi hout fuel listed a w (Region.free_spec ho hfree) hdc (by simpa using hcon) (.inr ⟨hwant, rfl⟩) ⟨hw, hS⟩ ?_
          exact (ih S L _ _ _ _ _ hout (hdc.set (by simpa using hcon)) (ha'.put hoko) hw (hkp.put hdo _) hS).1 fuel hf' hB
      · exact h.elim
  | act i r m ihr ihm =>
    intro S L listed sk a fr w hout hdc ha hw hkp hS
    have part : ∀ fuel, (Ord.act i r m).depth ≤ fuel + 1 → ∀ o, ops[i]? = some o → (vcG ops sk fr o
            (fun fr => vcOp P E fr o w.heap fun v h' => S.P h' ∧ vcDraw P E ops r true S L (listed.setIfInBounds i true) sk (put fr o.dst v) h' K)
            (fun fr => vcDraw P E ops r true S L (listed.setIfInBounds i true) (skip o.dst sk) (put fr o.dst undef) w.heap K) ∧
          (match m.isStop with | true => True | false => vcDraw P E ops m false S L listed sk fr w.heap K)) → (∀ j ∈ (Ord.act i r m).idxs, j ∈ Region.ready .any ops listed) → ∀ j ∈ (Ord.act i r m).idxs,
        wpOp P ops (LooseP D n ds a₀ w₀ E Q) j (fun a' w' => (Same w₀ w' ∧ S.P w'.heap) ∧
          wpSeg P ops (LooseP D n ds a₀ w₀ E Q) (fun w => Same w₀ w ∧ S.P w.heap) L (fun f a w => wpAny P .any ops (LooseP D n ds a₀ w₀ E Q) f L a w) fuel (listed.setIfInBounds j true) a' w') a w := by
      intro fuel hf o ho ⟨h1, h2⟩ hrd j hj
      have hoko := okOper_spec (hok o (Array.mem_of_getElem? ho))
      have hdo := hds o (Array.mem_of_getElem? ho)
      simp only [Ord.depth] at hf
      have hf1 : r.depth ≤ fuel := by omega
      have hf2 : m.depth ≤ fuel + 1 := by omega
      have hdc' := hdc.set (hrd i (by simp [Ord.idxs]))
      simp only [Ord.idxs, List.mem_cons] at hj
      rcases hj with rfl | hj
      · obtain ⟨fr', ha', hcase⟩ := vcG_elim ha h1
        unfold wpOp
        simp only [ho]
        rcases hcase with ⟨hwant, hA⟩ | ⟨hwant, hB⟩
        · simp only [hwant, if_true]
          refine .inl (vcOp_sound ha' (fun v w' hs hk => ?_) (fun c w' hs he => ⟨hw.trans hs, he, ha.defers, ha.size, hkp⟩) hA)
          exact ⟨⟨hw.trans hs, hk.1⟩, (ihr S L _ _ _ _ _ hout hdc' (ha'.put hoko) (hw.trans hs) (hkp.put hdo v) hk.1).1 fuel hf1 hk.2⟩
        · simp only [hwant, Bool.false_eq_true, if_false]
          exact ⟨⟨hw, hS⟩, (ihr S L _ _ _ _ _ hout hdc' (ha'.put hoko) hw (hkp.put hdo _) hS).1 fuel hf1 hB⟩
      · have h2' : vcDraw P E ops m false S L listed sk fr w.heap K := by
          cases m <;> first | exact h2 | (simp [Ord.idxs] at hj; done)
        exact (ihm S L listed sk a fr w hout hdc ha hw hkp hS).2 fuel hf2 h2' (fun k hk => hrd k (by simp [Ord.idxs, hk])) j hj
    refine ⟨fun fuel hf h => ?_, fun fuel hf h hrd j hj => ?_⟩
    · obtain ⟨fuel, rfl⟩ : ∃ g, fuel = g + 1 := ⟨fuel - 1, by simp only [Ord.depth] at hf; omega⟩
      simp only [vcDraw] at h
      split at h
      · exact h.elim
      · rename_i heq
        simp only [Bool.and_eq_true, Bool.not_eq_true'] at heq
        obtain ⟨heq, hneL⟩ := heq
        have hne : listed ≠ L := fun e => by rw [e, eqB_refl] at hneL; cases hneL
        split at h
        · exact h.elim
        · rename_i o ho
          refine ⟨fun e => absurd e hne, fun _ => ⟨by rw [← eqL_eq heq]; simp [Ord.idxs], fun j hj => ?_⟩⟩
          rw [← eqL_eq heq] at hj
          exact part fuel hf o ho h (fun k hk => by rw [eqL_eq heq] at hk; exact hk) j hj
    · simp only [vcDraw] at h
      split at h
      · exact h.elim
      · rename_i o ho
        exact part fuel hf o ho h hrd j hj

def OutP (D : List Deferred) (n : Nat) (w₀ : World) (ds : List Nat) (a₀ : Act) (E : List PanicEntry → Heap → Prop) (K : Exit → Fr → Heap → Prop) : Exit → Act → World → Prop
  | .panic ch, a, w => Same w₀ w ∧ E ch w.heap ∧ a.defers = D ∧ a.tmps.size = n ∧ Keeps ds a₀ a
  | e, a, w => Same w₀ w ∧ Keeps ds a₀ a ∧ ∃ fr, Agrees D n a fr ∧ K e fr w.heap

theorem OutP.loose {n : Nat} {w₀ : World} {ds : List Nat} {a₀ : Act} {E : List PanicEntry → Heap → Prop} {K : Exit → Fr → Heap → Prop} (e : Exit) (a : Act) (w : World)
    (h : LooseP D n ds a₀ w₀ E (OutP D n w₀ ds a₀ E K) e a w) : OutP D n w₀ ds a₀ E K e a w := by
  cases e <;> exact h

theorem regVC_soundP {P : Program} {H : Hints} {E : List PanicEntry → Heap → Prop} {n : Nat} {w₀ : World} (hm : P.follows .mixedOrders = true) {id : Nat} {ops : Array Oper} {draw : Bool}
    {K : Fr → Heap → Prop} {K' : Exit → Fr → Heap → Prop} {a : Act} {fr : Fr} {w : World} (hok : okCode n (.region id ops draw) = true) (ha : Agrees D n a fr) (hw : Same w₀ w)
    (hKK : ∀ a' fr' h', Agrees D n a' fr' → Keeps (dstsO ops.toList) a a' → K fr' h' → ∃ fr'', Agrees D n a' fr'' ∧ K' .normal fr'' h')
    (h : regVC P H E id ops draw fr w.heap K) : (Code.region id ops draw).wp P (OutP D n w₀ (dstsO ops.toList) a E K') a w := by
  simp only [okCode, Bool.and_eq_true] at hok
  obtain ⟨hok1, hok2⟩ := hok
  have hds : ∀ o ∈ ops.toList, ∀ d, o.dst = some d → d ∈ dstsO ops.toList := fun o ho d hd => mem_dstsO ho hd
  have hK : ∀ a' fr' w', Agrees D n a' fr' → Same w₀ w' → Keeps (dstsO ops.toList) a a' → K fr' w'.heap → OutP D n w₀ (dstsO ops.toList) a E K' .normal a' w' := by
    intro a' fr' w' h1 h2 h3 h4
    exact ⟨h2, h3, hKK _ _ _ h1 h3 h4⟩
  unfold regVC at h
  cases draw with
  | false =>
    simp only at h
    refine wp_region ?_
    rw [List.range_eq_range', ← Array.length_toList]
    exact vcOps_soundP (Q := OutP D n w₀ (dstsO ops.toList) a E K') hK (fun c a' w' h1 h2 h3 h4 h5 => ⟨h1, h2, h3, h4, h5⟩) ops.toList 0 (by simp) hok1 hds [] a fr w ha hw (Keeps.refl _ _) h
  | true =>
    simp only at h hok2
    have hoko : ∀ o ∈ ops, okOper n o = true := fun o ho => by
      rw [List.all_eq_true] at hok1
      exact hok1 o (by simpa using ho)
    split at h
    · exact h.elim
    · rename_i order _
      split at h
      · exact h.elim
      · rename_i hlen
        refine Code.wp_mono (OutP.loose (n := n) (ds := dstsO ops.toList) (a₀ := a) (K := K')) ?_
        refine wp_region_any hm ?_
        have hout : outOk ops (Array.replicate ops.size false) = true := by
          unfold outOk
          rw [List.all_eq_true]
          intro j hj
          simp only [Bool.or_eq_true]
          refine .inr ?_
          split
          · simp only [Bool.or_eq_true]
            refine .inr ?_
            rw [List.all_eq_true]
            intro i hi
            simp [Array.getD_eq_getD_getElem?, Array.getElem?_replicate]
            left
            split <;> rfl
          · rfl
        refine seg_any (L := Array.replicate ops.size false) (S := fun w' => Same w₀ w' ∧ (Stab.same w.heap).P w'.heap) (G := fun f x y => wpAny P .any ops (LooseP D n (dstsO ops.toList) a w₀ E (OutP D n w₀ (dstsO ops.toList) a E K')) f (Array.replicate ops.size false) x y) (fun _ _ _ h => h) ops.size _ a _ ?_
        exact (vcDraw_soundP (Q := OutP D n w₀ (dstsO ops.toList) a E K') (a₀ := a) hok2 hoko (fun o ho => hds o (by simpa using ho)) hK order (.same w.heap) _ _ [] a fr { w with drawn := w.drawn + 1 } hout (fun j oj hj hl => by simp [Array.getD_eq_getD_getElem?, Array.getElem?_replicate] at hl; split at hl <;> cases hl) ha
          (hw.trans ⟨rfl, rfl, rfl⟩) (Keeps.refl _ _) rfl).1 ops.size (Nat.le_of_ble_eq_true hlen) h

theorem OutP.mono {n : Nat} {w₀ : World} {ds ds' : List Nat} {a₀ a₁ : Act} {E : List PanicEntry → Heap → Prop} {K K' : Exit → Fr → Heap → Prop} {e : Exit} {a : Act} {w : World}
    (h : OutP D n w₀ ds a₁ E K e a w) (hk : Keeps ds a₁ a → Keeps ds' a₀ a) (hK : ∀ fr h, Agrees D n a fr → K e fr h → ∃ fr', Agrees D n a fr' ∧ K' e fr' h) : OutP D n w₀ ds' a₀ E K' e a w := by
  cases e <;> first
    | exact ⟨h.1, h.2.1, h.2.2.1, h.2.2.2.1, hk h.2.2.2.2⟩
    | (obtain ⟨h1, h2, fr, h3, h4⟩ := h
       obtain ⟨fr', h5, h6⟩ := hK fr _ h3 h4
       exact ⟨h1, hk h2, fr', h5, h6⟩)

theorem vc_soundP {P : Program} {H : Hints} {E : List PanicEntry → Heap → Prop} {n : Nat} {w₀ : World} (hm : P.follows .mixedOrders = true) :
    ∀ (c : Code) (fr : Fr) (K : Exit → Fr → Heap → Prop) (a : Act) (w : World), okCode n c = true → Agrees D n a fr → Same w₀ w → vc P H E c fr w.heap K →
      c.wp P (OutP D n w₀ (dsts c) a E K) a w := by
  intro c
  induction c with
  | skip => intro fr K a w _ ha hw h; exact wp_skip ⟨hw, Keeps.refl _ _, fr, ha, h⟩
  | label l => intro fr K a w _ ha hw h; exact wp_label ⟨hw, Keeps.refl _ _, fr, ha, h⟩
  | ret => intro fr K a w _ ha hw h; exact wp_ret ⟨hw, Keeps.refl _ _, fr, ha, h⟩
  | exit id => intro fr K a w _ ha hw h; exact wp_exit ⟨hw, Keeps.refl _ _, fr, ha, h⟩
  | goto l => intro fr K a w _ ha hw h; exact h.elim
  | refuse s => intro fr K a w _ ha hw h; exact h.elim
  | rangeFunc f ps x y _ _ => intro fr K a w _ ha hw h; exact h.elim
  | scope c ih =>
    intro fr K a w hok ha hw h
    simp only [okCode] at hok
    simp only [vc] at h
    refine wp_scope_straight (wp_mono (ih fr _ a w hok ha hw h) ?_)
    intro e a' w' ho
    cases e with
    | normal => exact ho
    | exit id => exact ho
    | goto l => obtain ⟨_, _, _, _, h4⟩ := ho; exact h4.elim
    | ret => exact ho
    | panic ch => exact ho
    | outgrown => exact ho
  | region id ops draw =>
    intro fr K a w hok ha hw h
    simp only [vc] at h
    split at h
    · refine regVC_soundP hm hok ha hw ?_ h
      intro a' fr' h' h1 _ h3
      exact ⟨fr', h1, h3⟩
    · rename_i outs _
      obtain ⟨J, hJ, hk⟩ := h
      refine regVC_soundP hm hok ha hw ?_ hJ
      intro a' fr' h' h1 h2 h3
      obtain ⟨vs, hl, hj⟩ := need_elim h3
      have := forallN_elim _ _ (hk h') vs (looks_length hl) hj
      exact ⟨_, join_agrees ha h2 h1 hl, this⟩
  | seq x y ihx ihy =>
    intro fr K a w hok ha hw h
    simp only [okCode, Bool.and_eq_true] at hok
    simp only [vc] at h
    split at h
    · refine wp_seq (wp_mono (ihx fr _ a w hok.1 ha hw h) ?_)
      intro e a' w' ho
      cases e with
      | normal =>
        obtain ⟨h1, h2, fr', h3, h4⟩ := ho
        refine wp_mono (ihy fr' K a' w' hok.2 h3 h1 h4) ?_
        intro e a2 w2 ho
        refine ho.mono (fun hk => ?_) (fun fr h ha hk => ⟨fr, ha, hk⟩)
        exact (h2.mono fun t ht => List.mem_append_left _ ht).trans (hk.mono fun t ht => List.mem_append_right _ ht)
      | _ => exact OutP.mono (ds' := dsts x ++ dsts y) ho (fun hk => hk.mono fun t ht => List.mem_append_left _ ht) (fun fr h ha hk => ⟨fr, ha, hk⟩)
    · rename_i outs _
      obtain ⟨J, hJ, hk⟩ := h
      refine wp_seq (wp_mono (ihx fr _ a w hok.1 ha hw hJ) ?_)
      intro e a' w' ho
      cases e with
      | normal =>
        obtain ⟨h1, h2, fr', h3, h4⟩ := ho
        obtain ⟨vs, hl, hj⟩ := need_elim h4
        have := forallN_elim _ _ (hk w'.heap) vs (looks_length hl) hj
        refine wp_mono (ihy _ K a' w' hok.2 (join_agrees ha h2 h3 hl) h1 this) ?_
        intro e a2 w2 ho
        refine ho.mono (fun hk => ?_) (fun fr h ha hk => ⟨fr, ha, hk⟩)
        exact (h2.mono fun t ht => List.mem_append_left _ ht).trans (hk.mono fun t ht => List.mem_append_right _ ht)
      | _ => exact OutP.mono (ds' := dsts x ++ dsts y) ho (fun hk => hk.mono fun t ht => List.mem_append_left _ ht) (fun fr h ha hk => ⟨fr, ha, hk⟩)
  | cond c x y ihx ihy =>
    intro fr K a w hok ha hw h
    simp only [okCode, Bool.and_eq_true] at hok
    simp only [vc] at h
    obtain ⟨v, hb, h⟩ := need_elim h
    obtain ⟨b, rfl, h⟩ := boolV_elim h
    have hkn : ∀ b', ev fr c = some (.bool b') → Agrees D n a (knowF c b' fr) := by
      intro b' he
      cases c with
      | tmp t => exact ha.know he
      | _ => exact ha
    cases b with
    | true =>
      refine wp_cond_true (ha.eval hb) (wp_mono (ihx _ K a w hok.1 (hkn true hb) hw h) ?_)
      intro e a' w' ho
      exact ho.mono (fun hk => hk.mono fun t ht => List.mem_append_left _ ht) (fun fr h ha hk => ⟨fr, ha, hk⟩)
    | false =>
      refine wp_cond_false (ha.eval hb) (wp_mono (ihy _ K a w hok.2 (hkn false hb) hw h) ?_)
      intro e a' w' ho
      exact ho.mono (fun hk => hk.mono fun t ht => List.mem_append_right _ ht) (fun fr h ha hk => ⟨fr, ha, hk⟩)
  | block id c ih =>
    intro fr K a w hok ha hw h
    simp only [vc] at h
    refine wp_block (wp_mono (ih fr _ a w hok ha hw h) ?_)
    intro e a' w' ho
    cases e with
    | exit id' =>
      obtain ⟨h1, h2, fr', h3, h4⟩ := ho
      simp only [Exit.inBlock]
      have h4' : (match Nat.beq id' id with | true => K .normal fr' w'.heap | false => K (.exit id') fr' w'.heap) := h4
      cases hb : Nat.beq id' id with
      | true =>
        rw [hb] at h4'
        rw [if_pos (Nat.eq_of_beq_eq_true hb)]
        exact ⟨h1, h2, fr', h3, h4'⟩
      | false =>
        rw [hb] at h4'
        rw [if_neg (fun e => by subst e; simp at hb)]
        exact ⟨h1, h2, fr', h3, h4'⟩
    | _ => exact ho.mono (fun hk => hk) (fun fr h ha hk => ⟨fr, ha, hk⟩)
  | loop c ih =>
    intro fr K a w hok ha hw h
    simp only [vc] at h
    split at h
    · exact h.elim
    · rename_i slots _
      obtain ⟨vs₀, hl, I, μ, hI, hround⟩ := need_elim h
      obtain ⟨hmap, hlt⟩ := looks_map ha hl
      refine wp_loop (fun a' w' => Same w₀ w' ∧ a'.defers = D ∧ a'.tmps.size = n ∧ Keeps (dsts c) a a' ∧ I (slots.map fun t => a'.tmps.getD t undef) w'.heap)
        (fun a' w' => μ (slots.map fun t => a'.tmps.getD t undef) w'.heap) ⟨hw, ha.defers, ha.size, Keeps.refl _ _, by rw [hmap]; exact hI⟩ ?_
      intro a' w' ⟨h1, h2, h3, h4, h5⟩
      have hag : Agrees D n a' (zipF slots (slots.map fun t => a'.tmps.getD t undef) (dropF (dsts c) fr)) := by
        refine zip_agrees h2 h3 ?_ slots hlt
        intro t v hlk
        obtain ⟨e1, e2⟩ := look_dropF hlk
        rw [h4.vals t (memN_mem e2)]
        exact ha.vals _ _ e1
      have hv := forallN_elim _ _ (hround w'.heap) (slots.map fun t => a'.tmps.getD t undef) (by simp) h5
      refine wp_mono (ih _ _ a' w' hok hag h1 hv) ?_
      intro e a2 w2 ho
      cases e with
      | normal =>
        obtain ⟨k1, k2, fr2, k3, k4⟩ := ho
        obtain ⟨vs', hl', hI', hmu⟩ := need_elim k4
        obtain ⟨hmap', _⟩ := looks_map k3 hl'
        refine ⟨⟨k1, k3.defers, k3.size, h4.trans k2, by rw [hmap']; exact hI'⟩, by rw [hmap']; exact hmu⟩
      | _ => exact ho.mono (fun hk => h4.trans hk) (fun fr h ha hk => ⟨fr, ha, hk⟩)
/-- a piece of an activation that defers: what comes behind it, and what is known of the slots -/
def looksK (outs : List Nat) (rets : List Nat) (kn kr : List Value → Heap → Prop) : Exit → Fr → Heap → Prop
  | .normal, fr, h => need (looks fr outs) fun vs => kn vs h
  | .ret, fr, h => need (looks fr rets) fun vs => kr vs h
  | _, _, _ => False
theorem looks_agrees {D : List Deferred} {n : Nat} {a : Act} {fr : Fr} {outs : List Nat} {vs : List Value} (ha : Agrees D n a fr) (hl : looks fr outs = some vs) : Agrees D n a (zipF outs vs []) :=
  looks_zip ha.defers ha.size (fun t v h => by cases h) hl ha
theorem last_piece {P : Program} {H : Hints} {E : List PanicEntry → Heap → Prop} {D : List Deferred} {n : Nat} {w₀ : World} {c1 : Code} {Q : Exit → Act → World → Prop} {outs rets : List Nat} {kn kr : List Value → Heap → Prop}
    (hm : P.follows .mixedOrders = true) {fr : Fr} {a : Act} {w : World} (hok : okCode n c1 = true) (ha : Agrees D n a fr) (hw : Same w₀ w) (hv : vc P H E c1 fr w.heap (looksK outs rets kn kr))
    (hE : ∀ c a' w, Same w₀ w → E c w.heap → a'.defers = D → a'.tmps.size = n → Keeps (dsts c1) a a' → Q (.panic c) a' w) (hr : ∀ vs a' w, Agrees D n a' (zipF rets vs []) → Same w₀ w → kr vs w.heap → Q .ret a' w)
    (hn : ∀ vs a' w, Agrees D n a' (zipF outs vs []) → Same w₀ w → kn vs w.heap → Q .normal a' w) : c1.wp P Q a w := by
  refine wp_mono (vc_soundP (w₀ := w₀) (E := E) hm c1 _ _ _ w hok ha hw hv) ?_
  intro e a' w' ho
  cases e with
  | panic c => exact hE c a' w' ho.1 ho.2.1 ho.2.2.1 ho.2.2.2.1 ho.2.2.2.2
  | normal =>
    obtain ⟨h1, _, fr', h3, h4⟩ := ho
    obtain ⟨vs, hl, hk⟩ := need_elim h4
    exact hn vs a' w' (looks_agrees h3 hl) h1 hk
  | ret =>
    obtain ⟨h1, _, fr', h3, h4⟩ := ho
    obtain ⟨vs, hl, hk⟩ := need_elim h4
    exact hr vs a' w' (looks_agrees h3 hl) h1 hk
  | exit id => obtain ⟨_, _, fr, _, h4⟩ := ho; exact h4.elim
  | goto l => obtain ⟨_, _, fr, _, h4⟩ := ho; exact h4.elim
  | outgrown => obtain ⟨_, _, fr, _, h4⟩ := ho; exact h4.elim
theorem piece {P : Program} {H : Hints} {E : List PanicEntry → Heap → Prop} {D : List Deferred} {n : Nat} {w₀ : World} {c1 c2 : Code} {Q : Exit → Act → World → Prop} {outs rets : List Nat} {kn kr : List Value → Heap → Prop}
    (hm : P.follows .mixedOrders = true) {fr : Fr} {a : Act} {w : World} (hok : okCode n c1 = true) (ha : Agrees D n a fr) (hw : Same w₀ w) (hv : vc P H E c1 fr w.heap (looksK outs rets kn kr))
    (hE : ∀ c a' w, Same w₀ w → E c w.heap → a'.defers = D → a'.tmps.size = n → Keeps (dsts c1) a a' → Q (.panic c) a' w) (hr : ∀ vs a' w, Agrees D n a' (zipF rets vs []) → Same w₀ w → kr vs w.heap → Q .ret a' w)
    (hn : ∀ vs a' w, Agrees D n a' (zipF outs vs []) → Same w₀ w → kn vs w.heap → c2.wp P Q a' w) : (Code.seq c1 c2).wp P Q a w :=
  wp_seq (wp_mono (last_piece (Q := fun e a' w' => match e with | .normal => c2.wp P Q a' w' | e => Q e a' w') hm hok ha hw hv hE hr hn) fun e a' w' h => by cases e <;> exact h)
def cHead : Code → Code
  | .seq a _ => a
  | c => c
def cTail : Code → Code
  | .seq _ b => b
  | c => c
theorem look_mem : ∀ {fr : Fr} {t : Nat} {v : Value}, Vcg.look fr t = some v → (t, v) ∈ fr
  | [], _, _, h => by cases h
  | (d, u) :: fr, t, v, h => by
    simp only [Vcg.look] at h
    split at h
    · rename_i hb
      have : d = t := Nat.eq_of_beq_eq_true hb
      cases h
      subst this
      exact List.mem_cons_self
    · exact List.mem_cons_of_mem _ (look_mem h)
theorem agrees_of {D : List Deferred} {n : Nat} {a : Act} {fr : Fr} (hd : a.defers = D) (hs : a.tmps.size = n) (h : ∀ q ∈ fr, a.tmps[q.1]? = some q.2) : Agrees D n a fr :=
  ⟨hd, hs, fun t v hl => h (t, v) (look_mem hl)⟩
end Go.Vcg
