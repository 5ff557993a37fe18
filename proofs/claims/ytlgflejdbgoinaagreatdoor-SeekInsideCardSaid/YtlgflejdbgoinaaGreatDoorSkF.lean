/- A part of the proofs over this seat: SkF. -/
import Derived.Test.YtlgflejdbgoinaaGreatDoorSkN
set_option linter.unusedVariables false
set_option linter.unusedSimpArgs false
set_option maxRecDepth 100000
namespace Go.Proofs
open Go.Vcg Go.Extern
namespace Rt
attribute [local congr] Reads.congr ReadsS.congr pLoad.congr pLoadS.congr pStore.congr Runs.congr CallsH.congr bcase.congr boolV.congr Stable.congr pAlloc.congr
variable {S : Glb} {n : Nat} {h : Heap} {r : Nat} {ov : Value} {l : List Op} {p op : Nat} {ac : Bool} {R : Value → Heap → Prop} {E : List PanicEntry → Heap → Prop}

/-- what a reading function's caller owes for what it tells -/
def Owes (S : Glb) (n : Nat) (h : Heap) (r : Nat) (ov : Value) (l : List Op) (op : Nat) (m : Res (U × Nat × Bool)) (R : Value → Heap → Prop) (E : List PanicEntry → Heap → Prop) : Prop :=
  match m with
  | .out => False
  | .bad code pos => ∀ c h', Fails S h' h.size code pos c → Fm h.size r h h' → E c h'
  | .ok (t, p', ac') => ∀ h' vs, Fm h.size r h h' → Cx S n h' r ov l p' op ac' → IsSk h' (fun b => h.size ≤ b) t vs → R (.agg vs.toArray) h'

/-- a reading function under way: one block for its result, one for what it makes -/
structure Wk (S : Glb) (n : Nat) (h0 h : Heap) (r : Nat) (ov : Value) (l : List Op) (p op : Nat) (ac : Bool) (b4 b5 : Nat) (vs : List Value) : Prop where
  fm : Fm h0.size r h0 h
  cx : Cx S n h r ov l p op ac
  n0 : n ≤ h0.size
  r0 : r < h0.size
  c4 : ∃ cs, h[b4]? = some (.cells cs 40 (0, 0)) ∧ cs.size = 7
  c5 : h[b5]? = some (.cells vs.toArray 40 (0, 0))
  n4 : h0.size ≤ b4
  n5 : h0.size ≤ b5
  ne : b4 ≠ b5
theorem Wk.upd {h0 h' : Heap} {b4 b5 : Nat} {vs ws : List Value} (w : Wk S n h0 h r ov l p op ac b4 b5 vs) (hu : Upd h h' b5 (.cells ws.toArray 40 (0, 0))) : Wk S n h0 h' r ov l p op ac b4 b5 ws := by
  have h1 := w.n0; have h2 := w.r0; have h3 := w.n4; have h4 := w.n5; have h5 := w.ne
  exact ⟨w.fm.trans (Fm.upd hu (.inl w.n5)), w.cx.upd hu (by omega) (by omega), w.n0, w.r0, w.c4.imp fun cs hc => ⟨(hu.other _ h5).trans hc.1, hc.2⟩, hu.same, w.n4, w.n5, w.ne⟩
theorem Wk.rdr {h0 h' : Heap} {b4 b5 p' op' : Nat} {ac' : Bool} {vs : List Value} (w : Wk S n h0 h r ov l p op ac b4 b5 vs) (f : Fm h.size r h h') (c : Cx S n h' r ov l p' op' ac') : Wk S n h0 h' r ov l p' op' ac' b4 b5 vs := by
  have h1 := w.n0; have h2 := w.r0; have h3 := w.n4; have h4 := w.n5; have h5 := w.ne
  obtain ⟨cs, e1, e2⟩ := w.c4
  have l4 := at_lt e1
  have l5 := at_lt w.c5
  have hs := w.fm.size
  exact ⟨w.fm.trans (f.less (by omega)), c, w.n0, w.r0, ⟨cs, (f.same _ l4 (by omega)).trans e1, e2⟩, (f.same _ l5 (by omega)).trans w.c5, w.n4, w.n5, w.ne⟩
theorem Wk.fr {h0 h' : Heap} {b4 b5 : Nat} {vs : List Value} (w : Wk S n h0 h r ov l p op ac b4 b5 vs) (f : Fm h.size h.size h h') : Wk S n h0 h' r ov l p op ac b4 b5 vs := by
  have hr := w.cx.rlt
  have f' : Fm h.size r h h' := ⟨f.size, fun k hk _ => f.same k hk (by omega)⟩
  exact w.rdr f' (w.cx.still (f'.less w.cx.nle) (f.same r hr (by omega)))
theorem Wk.ret {h0 : Heap} {b4 b5 : Nat} {vs xs : List Value} {t : U} (w : Wk S n h0 h r ov l p op ac b4 b5 xs) (ht : IsSk h (fun b => h0.size ≤ b ∧ b ≠ b4) t vs) (hk : Owes S n h0 r ov l op (.ok (t, p, ac)) R E) :
    pStore Tryz.prog 40 (.pointer (some ⟨b4, 0, none⟩)) (.agg vs.toArray) h fun h' => pLoad Tryz.prog 40 (.pointer (some ⟨b4, 0, none⟩)) h' fun r => R r h' := by
  have h1 := w.n0; have h2 := w.r0; have h3 := w.n4
  obtain ⟨cs, e1, e2⟩ := w.c4
  refine ret_sk e1 e2 (fun x hx => hx.2) ht fun h' hu ht' => ?_
  exact hk h' vs (w.fm.trans (Fm.upd hu (.inl w.n4))) (w.cx.upd hu (by omega) (by omega)) (ht'.frame fun b hb _ => ⟨hb.1, rfl⟩)
theorem Wk.fail {h0 : Heap} {b4 b5 code pos : Nat} {xs : List Value} {K : Value → Heap → Prop} {t : Value} (w : Wk S n h0 h r ov l p op ac b4 b5 xs) (hc1 : 1 ≤ code) (hc2 : code ≤ 21) {op' : Nat} (hk : Owes S n h0 r ov l op' (.bad code pos) R E) :
    CallsH Tryz.prog 24 #[t, .int .i64 code, .int .i64 pos] h K E := by
  have hs := w.fm.size
  have hr := w.r0
  exact bar_spec w.cx.gl hc1 hc2 fun c h' hf f => hk c h' (hf.more hs) (w.fm.trans ⟨f.size, fun k hk _ => f.same k (by omega) (by omega)⟩)

/-! ### Numbers -/
def numM (size : Bool) (s : Op) : Option (Int × Nat × Bool) :=
  let s1 := if size then Go.Lib.trimSuffix s [99] else s
  let sg : Int := if s1.head? = some 43 then 1 else if s1.head? = some 45 then -1 else 0
  let s2 := if s1.head? = some 43 then s1.drop 1 else if s1.head? = some 45 then s1.drop 1 else s1
  (whole0 s2).map fun n => (sg, n, size && Go.Lib.hasSuffix s [99])
def numberM (l : List Op) (kind p : Nat) (ac : Bool) : Res (U × Nat × Bool) :=
  match l[p]? with
  | none => .bad 3 l.length
  | some s => match numM (kind == 6) s with
    | none => .bad 14 p
    | some x => .ok (leafU kind [] x.1 x.2.1 x.2.2, p + 1, ac)
theorem trimSuffix_len {s q : Op} : (Go.Lib.trimSuffix s q).length ≤ s.length := by
  unfold Go.Lib.trimSuffix
  split
  · rw [List.length_take]; omega
  · exact Nat.le_refl _
theorem number_spec {kind : Nat} (hkind : kind = 6 ∨ kind = 7) (c : Cx S n h r ov l p op ac) (hk : Owes S n h r ov l op (numberM l kind p ac) R E) : CallsH Tryz.prog 71 #[ptr r, .int .i64 kind] h R E := by
  refine C71 ?_
  unfold S71
  refine alloc_rule Tryz.zero40 fun h1 a1 => ?_
  rw [Tryz.bd40_0]
  refine alloc_rule Tryz.zero40 fun h2 a2 => ?_
  have s1 := a1.size
  have s2 := a2.size
  have hr := c.rlt
  have hl := c.len
  have hop := c.opg
  refine storeFull a2.at_ (xs := (skL kind [] 0 0 false (.slice none 0 0) (.slice none 0 0)).toArray) Tryz.size40 rfl (flat_skL rfl rfl) fun h3 u3 => ?_
  have s3 := u3.size
  have w3 : Wk S n h h3 r ov l p op ac h.size h1.size (skL kind [] 0 0 false (.slice none 0 0) (.slice none 0 0)) :=
    ⟨((Fm.al a1 (Nat.le_refl _)).trans (Fm.al a2 (by omega))).trans (Fm.upd u3 (.inl (by omega))), ((c.al a1).al a2).upd u3 (by have := c.nle; omega) (by omega), c.nle, hr, ⟨_, (u3.other _ (by omega)).trans ((a2.old _ (by omega)).trans a1.at_), rfl⟩, u3.same, by omega, by omega, by omega⟩
  refine next_spec w3.cx (fun hp h4 f4 c4 => ?_) (fun hp cc h4 hf f => ?_)
  rotate_left
  · have : l[p]? = none := List.getElem?_eq_none (by omega)
    unfold numberM at hk
    rw [this] at hk
    exact hk cc h4 (hf.more (by omega)) (w3.fm.trans ⟨f.size, fun k hk _ => f.same k (by omega) (by omega)⟩)
  have w4 := w3.rdr f4 c4
  have hsl : l[p].length ≤ 1024 := c.sh _ (List.getElem_mem hp)
  have hlp : l[p]? = some l[p] := List.getElem?_eq_getElem hp
  unfold numberM at hk
  rw [hlp] at hk
  simp only at hk
  generalize l[p] = s at *
  unfold numM at hk
  refine Join1.intro (fun v h' => ∃ s1, s1 = (if (kind == 6) = true then Go.Lib.trimSuffix s [99] else s) ∧ v = str s1 ∧ s1.length ≤ 1024 ∧ Wk S n h h' r ov l (p + 1) op ac h.size h1.size (skL kind [] 0 0 ((kind == 6) && Go.Lib.hasSuffix s [99]) (.slice none 0 0) (.slice none 0 0))) ?_ ?_
  · rw [reads_eq, boolV_bool]
    rcases hkind with rfl | rfl
    · rw [show decide (((6 : Nat) : Int) = 6) = true from rfl, bcase_true]
      refine cutSuffix_spec (by omega) ?_
      rw [reads_ext0, reads_ext1, Tryz.fa40_4, addr_add]
      refine store1 w4.c5 Tryz.size4 rfl (by simp [skL]) fun h5 u5 => ?_
      exact ⟨_, rfl, by simp, by have := @trimSuffix_len s [99]; simp only [beq_self_eq_true, if_true]; omega, w4.upd u5⟩
    · rw [show decide (((7 : Nat) : Int) = 6) = false from rfl, bcase_false]
      exact ⟨_, rfl, by simp, by simpa using hsl, w4⟩
  rintro _ h5 ⟨s1, hs1, rfl, hl1, w5⟩
  rw [← hs1] at hk
  refine Join1.intro (fun v h' => ∃ s2 sg, s2 = (if s1.head? = some 43 then s1.drop 1 else if s1.head? = some 45 then s1.drop 1 else s1) ∧ sg = (if s1.head? = some 43 then 1 else if s1.head? = some 45 then -1 else 0 : Int) ∧ v = str s2 ∧ s2.length ≤ 1024 ∧ Wk S n h h' r ov l (p + 1) op ac h.size h1.size (skL kind [] sg 0 ((kind == 6) && Go.Lib.hasSuffix s [99]) (.slice none 0 0) (.slice none 0 0))) ?_ ?_
  · have dl : (s1.drop 1).length ≤ 1024 := by rw [List.length_drop]; omega
    have ne1 : ∀ {x : UInt8}, s1.head? = some x → 1 ≤ s1.length := by
      intro x hx
      cases s1 with
      | nil => cases hx
      | cons => simp
    refine hasPrefix_spec ?_
    rw [boolV_bool, hasPrefix1]
    refine bcase_of (fun hc => ?_) (fun hc => ?_)
    · have hc := of_decide_eq_true hc
      rw [Tryz.fa40_2, addr_add]
      refine store1 w5.c5 Tryz.size3 rfl (by simp [skL]) fun h6 u6 => ?_
      rw [show Value.int IntKind.i64 1 = .int .i64 ((1 : Nat) : Int) from rfl, reads_sdrop Tryz.underlying9 (ne1 hc)]
      exact ⟨_, _, rfl, rfl, by rw [if_pos hc], by rw [if_pos hc]; exact dl, by rw [if_pos hc]; exact w5.upd u6⟩
    have hc := of_decide_eq_false hc
    refine hasPrefix_spec ?_
    rw [boolV_bool, hasPrefix1]
    refine bcase_of (fun hc2 => ?_) (fun hc2 => ?_)
    · have hc2 := of_decide_eq_true hc2
      rw [Tryz.fa40_2, addr_add]
      refine store1 w5.c5 Tryz.size3 rfl (by simp [skL]) fun h6 u6 => ?_
      rw [show Value.int IntKind.i64 1 = .int .i64 ((1 : Nat) : Int) from rfl, reads_sdrop Tryz.underlying9 (ne1 hc2)]
      exact ⟨_, _, rfl, rfl, by rw [if_neg hc, if_pos hc2], by rw [if_neg hc, if_pos hc2]; exact dl, by rw [if_neg hc, if_pos hc2]; exact w5.upd u6⟩
    · have hc2 := of_decide_eq_false hc2
      exact ⟨_, _, rfl, rfl, by rw [if_neg hc, if_neg hc2], by rw [if_neg hc, if_neg hc2]; exact hl1, by rw [if_neg hc, if_neg hc2]; exact w5⟩
  rintro _ h6 ⟨s2, sg, hs2, hsg, rfl, hl2, w6⟩
  simp only [← hs2, ← hsg] at hk
  refine whole_spec (by omega) fun h7 x b f7 hx1 hx2 hx3 => ?_
  have w7 := w6.fr f7
  rw [reads_ext0, reads_ext1]
  refine Join0.intro (fun h' => h' = h7 ∧ ∃ m : Nat, whole0 s2 = some m ∧ x = m) ?_ ?_
  · refine Join1.intro (fun v h' => h' = h7 ∧ v = .bool (!b || decide (s2.head? = some 45))) ?_ ?_
    · rw [reads_not, boolV_bool]
      cases b with
      | false => exact ⟨rfl, rfl⟩
      | true =>
        have hne := hx3 rfl
        cases s2 with
        | nil => exact absurd rfl hne
        | cons y ys =>
          simp only [Bool.not_true, bcase_false]
          rw [show Value.int IntKind.i64 0 = .int .i64 ((0 : Nat) : Int) from rfl, reads_sindex Tryz.underlying9 (by simp), reads_eq]
          refine ⟨trivial, ?_⟩
          congr 1
          rw [show ((45 : Int)) = (((45 : UInt8).toNat : Nat) : Int) from rfl, List.getElem_cons_zero, dec_u8_eq]
          simp
    rintro _ h8 ⟨rfl, rfl⟩
    simp only [boolV_bool]
    refine bcase_of (fun hc => ?_) (fun hc => ?_)
    · have hnone : whole0 s2 = none := by
        cases hm : whole0 s2 with
        | none => rfl
        | some m =>
          have h45 : s2.head? ≠ some 45 := by
            intro e
            rw [whole0, if_pos (.inr e)] at hm
            cases hm
          obtain ⟨_, hb⟩ := hx1 h45 m hm
          subst hb
          simp [h45] at hc
      rw [hnone] at hk
      simp only [Option.map_none] at hk
      simp only [reads_nil, Tryz.fa63_1, addr_add, w7.cx.ld1, reads_sub, Nat.zero_add, wrap_s1 (p + 1) (by omega) (by omega), Nat.add_sub_cancel]
      exact w7.fail (code := 14) (by omega) (by omega) hk
    · refine ⟨trivial, ?_⟩
      rw [Bool.or_eq_false_iff] at hc
      have h45 : s2.head? ≠ some 45 := of_decide_eq_false hc.2
      cases hm : whole0 s2 with
      | none =>
        rcases hx2 hm with hb | hb
        · rw [hb] at hc; simp at hc
        · exact absurd hb h45
      | some m => exact ⟨m, rfl, (hx1 h45 m hm).1⟩
  rintro h8 ⟨rfl, m, hm, rfl⟩
  rw [hm] at hk
  simp only [Option.map_some] at hk
  rw [Tryz.fa40_3, addr_add]
  refine store1 w7.c5 Tryz.size2 rfl (by simp [skL]) fun h9 u9 => ?_
  have w9 : Wk S n h h9 r ov l (p + 1) op ac h.size h1.size (skL kind [] sg m ((kind == 6) && Go.Lib.hasSuffix s [99]) (.slice none 0 0) (.slice none 0 0)) := w7.upd u9
  refine load_all w9.c5 Tryz.agg40 ?_
  exact w9.ret IsSk.leaf hk

/-! ### The operands of -exec -/
def argsM : List Op → Option (List Op × Nat)
  | [] => none
  | s :: t => if s = [59] then some ([], 1) else (argsM t).map fun x => (s :: x.1, x.2 + 1)
def execM (l : List Op) (p : Nat) : Res (U × Nat × Bool) :=
  match argsM (l.drop p) with
  | none => .bad 3 l.length
  | some x => if x.1 = [] then .bad 14 p else .ok (.node 11 [] 0 0 false x.1 [], p + x.2, true)
theorem exec_spec (c : Cx S n h r ov l p op true) (hk : Owes S n h r ov l op (execM l p) R E) : CallsH Tryz.prog 69 #[ptr r] h R E := by
  refine C69 ?_
  unfold S69
  refine alloc_rule Tryz.zero40 fun h1 a1 => ?_
  rw [Tryz.bd40_0]
  refine alloc_rule Tryz.zero40 fun h2 a2 => ?_
  have s1 := a1.size
  have s2 := a2.size
  have hr := c.rlt
  have hl := c.len
  have hop := c.opg
  have hnl := c.nle
  refine storeFull a2.at_ (xs := (skL 11 [] 0 0 false (.slice none 0 0) (.slice none 0 0)).toArray) Tryz.size40 rfl (flat_skL rfl rfl) fun h3 u3 => ?_
  have s3 := u3.size
  have w3 : Wk S n h h3 r ov l p op true h.size h1.size (skL 11 [] 0 0 false (.slice none 0 0) (.slice none 0 0)) :=
    ⟨((Fm.al a1 (Nat.le_refl _)).trans (Fm.al a2 (by omega))).trans (Fm.upd u3 (.inl (by omega))), ((c.al a1).al a2).upd u3 (by have := c.nle; omega) (by omega), c.nle, hr, ⟨_, (u3.other _ (by omega)).trans ((a2.old _ (by omega)).trans a1.at_), rfl⟩, u3.same, by omega, by omega, by omega⟩
  refine Loop0.fuel (fun k h' => ∃ q acc v, k = l.length - q ∧ p ≤ q ∧ argsM (l.drop p) = (argsM (l.drop q)).map (fun x => (acc ++ x.1, x.2 + (q - p))) ∧ acc.length = q - p ∧ SRow h' h2.size v acc ∧ Wk S n h h' r ov l q op true h.size h1.size (skL 11 [] 0 0 false v (.slice none 0 0))) (n := l.length - p)
    ⟨p, [], _, rfl, Nat.le_refl _, by simp, by simp, SRow.nil, w3⟩ fun k h4 hi => ?_
  obtain ⟨q, acc, v, rfl, hpq, hargs, hacc, hrow, w4⟩ := hi
  have hql := w4.cx.le
  have h24 : h2.size ≤ h4.size := by
    have := at_lt w4.c5
    omega
  refine next_spec w4.cx (fun hq h5 f5 c5 => ?_) (fun hq cc h5 hf f => ?_)
  rotate_left
  · have : argsM (l.drop p) = none := by rw [hargs, List.drop_of_length_le (by omega)]; rfl
    unfold execM at hk
    rw [this] at hk
    exact hk cc h5 (hf.more w4.fm.size) (w4.fm.trans ⟨f.size, fun k hk _ => f.same k (by have := w4.fm.size; omega) (by have := w4.fm.size; omega)⟩)
  have w5 := w4.rdr f5 c5
  have hrow5 : SRow h5 h2.size v acc := hrow.frame fun b hb hlt => f5.same b hlt (by omega)
  rw [reads_seq, boolV_bool]
  rw [List.drop_eq_getElem_cons hq] at hargs
  refine bcase_of (fun hc => ?_) (fun hc => ?_)
  · have hc := of_decide_eq_true hc
    rw [argsM.eq_2] at hargs
    rw [if_pos hc] at hargs
    simp only [Option.map_some, List.append_nil] at hargs
    unfold execM at hk
    rw [hargs] at hk
    simp only at hk
    rw [Tryz.fa40_5, addr_add, pLoad_one Tryz.agg22 (v := v) (by rw [hcell_of w5.c5]; rfl), reads_olen hrow5.is.is, reads_eq, boolV_bool]
    refine bcase_of (fun hc2 => ?_) (fun hc2 => ?_)
    · have hz : acc.length = 0 := by have := of_decide_eq_true hc2; omega
      rw [if_pos (List.length_eq_zero_iff.1 hz)] at hk
      have hqp : q = p := by omega
      subst hqp
      simp only [reads_nil, Tryz.fa63_1, addr_add, w5.cx.ld1, reads_sub, Nat.zero_add, wrap_s1 (q + 1) (by omega) (by omega), Nat.add_sub_cancel]
      exact w5.fail (code := 14) (by omega) (by omega) hk
    · have hz : acc ≠ [] := by
        rintro rfl
        exact absurd hc2 (by simp)
      rw [if_neg hz, show p + (1 + (q - p)) = q + 1 from by omega] at hk
      refine load_all w5.c5 Tryz.agg40 ?_
      refine w5.ret ?_ hk
      simp only [IsSk]
      refine ⟨_, _, rfl, hrow5.is.frame fun b hb _ => ⟨⟨by omega, by omega⟩, rfl⟩, .inl ⟨trivial, rfl⟩⟩
  · have hc := of_decide_eq_false hc
    rw [argsM.eq_2] at hargs
    rw [if_neg hc] at hargs
    rw [Tryz.fa40_5, addr_add, pLoad_one Tryz.agg22 (v := v) (by rw [hcell_of w5.c5]; rfl)]
    refine push_str1 rfl hrow5 (by have := f5.size; omega) (by omega) fun v' h6 r6 f6 => ?_
    rw [Tryz.fa40_5, addr_add]
    have l5 := at_lt w5.c5
    have c6 : h6[h1.size]? = some (.cells (skL 11 [] 0 0 false v (.slice none 0 0)).toArray 40 (0, 0)) := ((f6 h2.size).same _ (by omega) (by omega)).trans w5.c5
    have fl : flat v' = true := r6.is.flat
    refine store1 c6 Tryz.size22 fl (by simp [skL]) fun h7 u7 => ?_
    have f56 : Fm h2.size r h5 h6 := f6 r
    obtain ⟨cs, e1, e2⟩ := w5.c4
    have w7 : Wk S n h h7 r ov l (q + 1) op true h.size h1.size (skL 11 [] 0 0 false v' (.slice none 0 0)) :=
      ⟨(w5.fm.trans (f56.less (by omega))).trans (Fm.upd u7 (.inl (by omega))), (w5.cx.still (f56.less (by omega)) ((f6 h2.size).same _ (by omega) (by omega))).upd u7 (by omega) (by omega), hnl, hr,
        ⟨cs, (u7.other _ (by omega)).trans (((f6 h2.size).same _ (by omega) (by omega)).trans e1), e2⟩, u7.same, by omega, by omega, by omega⟩
    refine ⟨l.length - (q + 1), by omega, q + 1, acc ++ [l[q]], v', rfl, by omega, ?_, by simp; omega, r6.frame fun b hb _ => u7.other b (by omega), w7⟩
    rw [hargs, Option.map_map]
    congr 1
    funext x
    simp
    omega
end Rt
end Go.Proofs

set_option maxRecDepth 100000
namespace Go.Proofs
open Go.Vcg Go.Extern
namespace Rt
attribute [local congr] Reads.congr ReadsS.congr pLoad.congr pLoadS.congr pStore.congr Runs.congr CallsH.congr bcase.congr boolV.congr Stable.congr pAlloc.congr
variable {S : Glb} {n : Nat} {h : Heap} {r : Nat} {ov : Value} {l : List Op} {p op : Nat} {ac : Bool} {R : Value → Heap → Prop} {E : List PanicEntry → Heap → Prop}

/-! ### What is read -/
def twoU (k : Nat) (a b : U) : U := .node k [] 0 0 false [] [a, b]
def kwA : Op := [45, 97]
def kwO : Op := [45, 111]
def nameM (l : List Op) (p : Nat) (ac : Bool) : Res (U × Nat × Bool) := match l[p]? with
  | none => .bad 3 l.length
  | some s => if 256 < s.length then .bad 2 p else .ok (leafU 4 s 0 0 false, p + 1, ac)
def newerM (l : List Op) (p : Nat) (ac : Bool) : Res (U × Nat × Bool) := match l[p]? with
  | none => .bad 3 l.length
  | some s => .ok (leafU 8 s 0 0 false, p + 1, ac)
def typeM (l : List Op) (p : Nat) (ac : Bool) : Res (U × Nat × Bool) := match l[p]? with
  | none => .bad 3 l.length
  | some s => if s ≠ [102] ∧ s ≠ [100] then .bad 14 p else .ok (leafU 5 s 0 0 false, p + 1, ac)
def notM : Res (U × Nat × Bool) → Res (U × Nat × Bool)
  | .ok (t, p', ac') => .ok (.node 3 [] 0 0 false [] [t], p', ac')
  | x => x
def parM (l : List Op) : Res (U × Nat × Bool) → Res (U × Nat × Bool)
  | .ok (t, p', ac') => if isO l [41] p' then .ok (t, p' + 1, ac') else .bad 9 l.length
  | x => x
def primM (l : List Op) (s : Op) (p : Nat) (ac : Bool) : Res (U × Nat × Bool) :=
  if s = [45, 112, 114, 117, 110, 101] then .ok (leafU 9 [] 0 0 false, p + 1, ac)
  else if s = [45, 112, 114, 105, 110, 116] then .ok (leafU 10 [] 0 0 false, p + 1, true)
  else if s = [45, 101, 120, 101, 99] then execM l (p + 1)
  else if s = [45, 110, 97, 109, 101] then nameM l (p + 1) ac
  else if s = [45, 110, 101, 119, 101, 114] then newerM l (p + 1) ac
  else if s = [45, 116, 121, 112, 101] then typeM l (p + 1) ac
  else if s = [45, 115, 105, 122, 101] then numberM l 6 (p + 1) ac
  else if s = [45, 108, 105, 110, 107, 115] then numberM l 7 (p + 1) ac
  else .bad 3 p
mutual
def factorM : Nat → List Op → Nat → Nat → Bool → Res (U × Nat × Bool)
  | 0, _, _, _, _ => .out
  | k + 1, l, p, op, ac => match l[p]? with
    | none => .bad 3 l.length
    | some s =>
      if s = [33] then notM (factorM k l (p + 1) op ac)
      else if s = [40] then parM l (exprM k l (p + 1) (op + 1) ac)
      else if s = [41] then (if op = 0 then .bad 9 p else .bad 3 p)
      else primM l s p ac
def termL : Nat → List Op → U → Nat → Nat → Bool → Res (U × Nat × Bool)
  | 0, _, _, _, _, _ => .out
  | k + 1, l, t, p, op, ac =>
    if isO l kwA p = false ∧ (l.length ≤ p ∨ isO l kwO p = true ∨ isO l [41] p = true) then .ok (t, p, ac)
    else match factorM k l (if isO l kwA p then p + 1 else p) op ac with
      | .ok (u, p', ac') => termL k l (twoU 1 t u) p' op ac'
      | x => x
def termM : Nat → List Op → Nat → Nat → Bool → Res (U × Nat × Bool)
  | 0, _, _, _, _ => .out
  | k + 1, l, p, op, ac => match factorM k l p op ac with
    | .ok (t, p', ac') => termL k l t p' op ac'
    | x => x
def exprL : Nat → List Op → U → Nat → Nat → Bool → Res (U × Nat × Bool)
  | 0, _, _, _, _, _ => .out
  | k + 1, l, t, p, op, ac =>
    if isO l kwO p then match termM k l (p + 1) op ac with
      | .ok (u, p', ac') => exprL k l (twoU 2 t u) p' op ac'
      | x => x
    else .ok (t, p, ac)
def exprM : Nat → List Op → Nat → Nat → Bool → Res (U × Nat × Bool)
  | 0, _, _, _, _ => .out
  | k + 1, l, p, op, ac => match termM k l p op ac with
    | .ok (t, p', ac') => exprL k l t p' op ac'
    | x => x
end

/-! ### One block for the result -/
structure Wo (S : Glb) (n : Nat) (h0 h : Heap) (r : Nat) (ov : Value) (l : List Op) (p op : Nat) (ac : Bool) (b4 : Nat) : Prop where
  fm : Fm h0.size r h0 h
  cx : Cx S n h r ov l p op ac
  n0 : n ≤ h0.size
  r0 : r < h0.size
  c4 : ∃ cs, h[b4]? = some (.cells cs 40 (0, 0)) ∧ cs.size = 7
  n4 : h0.size ≤ b4
theorem Wo.rdr {h0 h' : Heap} {b4 p' op' : Nat} {ac' : Bool} (w : Wo S n h0 h r ov l p op ac b4) (f : Fm h.size r h h') (c : Cx S n h' r ov l p' op' ac') : Wo S n h0 h' r ov l p' op' ac' b4 := by
  have h1 := w.n0; have h2 := w.r0; have h3 := w.n4
  obtain ⟨cs, e1, e2⟩ := w.c4
  have l4 := at_lt e1
  have hs := w.fm.size
  exact ⟨w.fm.trans (f.less (by omega)), c, w.n0, w.r0, ⟨cs, (f.same _ l4 (by omega)).trans e1, e2⟩, w.n4⟩
theorem Wo.fr {h0 h' : Heap} {b4 : Nat} (w : Wo S n h0 h r ov l p op ac b4) (f : Fm h.size h.size h h') : Wo S n h0 h' r ov l p op ac b4 := by
  have hr := w.cx.rlt
  have f' : Fm h.size r h h' := ⟨f.size, fun k hk _ => f.same k hk (by omega)⟩
  exact w.rdr f' (w.cx.still (f'.less w.cx.nle) (f.same r hr (by omega)))
theorem Wo.ret {h0 : Heap} {b4 : Nat} {vs : List Value} {t : U} (w : Wo S n h0 h r ov l p op ac b4) (ht : IsSk h (fun b => h0.size ≤ b ∧ b ≠ b4) t vs) (hk : Owes S n h0 r ov l op (.ok (t, p, ac)) R E) :
    pStore Tryz.prog 40 (.pointer (some ⟨b4, 0, none⟩)) (.agg vs.toArray) h fun h' => pLoad Tryz.prog 40 (.pointer (some ⟨b4, 0, none⟩)) h' fun r => R r h' := by
  have h1 := w.n0; have h2 := w.r0; have h3 := w.n4
  obtain ⟨cs, e1, e2⟩ := w.c4
  refine ret_sk e1 e2 (fun x hx => hx.2) ht fun h' hu ht' => ?_
  exact hk h' vs (w.fm.trans (Fm.upd hu (.inl w.n4))) (w.cx.upd hu (by omega) (by omega)) (ht'.frame fun b hb _ => ⟨hb.1, rfl⟩)
theorem Wo.fail {h0 : Heap} {b4 code pos : Nat} {K : Value → Heap → Prop} {t : Value} (w : Wo S n h0 h r ov l p op ac b4) (hc1 : 1 ≤ code) (hc2 : code ≤ 21) {op' : Nat} (hk : Owes S n h0 r ov l op' (.bad code pos) R E) :
    CallsH Tryz.prog 24 #[t, .int .i64 code, .int .i64 pos] h K E := by
  have hs := w.fm.size
  have hr := w.r0
  exact bar_spec w.cx.gl hc1 hc2 fun c h' hf f => hk c h' (hf.more hs) (w.fm.trans ⟨f.size, fun k hk _ => f.same k (by omega) (by omega)⟩)
theorem Wo.next {h0 : Heap} {b4 op' : Nat} {m : Res (U × Nat × Bool)} (w : Wo S n h0 h r ov l p op ac b4) (hk : Owes S n h0 r ov l op' m R E) (hm : l[p]? = none → m = .bad 3 l.length) {K : Value → Heap → Prop}
    (hK : ∀ (hp : p < l.length), ∀ h', Wo S n h0 h' r ov l (p + 1) op ac b4 → Fm h.size r h h' → K (str l[p]) h') : CallsH Tryz.prog 68 #[ptr r] h K E := by
  have hs := w.fm.size
  have hr := w.r0
  refine next_spec w.cx (fun hp h' f c => hK hp h' (w.rdr f c) f) fun hp cc h' hf f => ?_
  rw [hm (List.getElem?_eq_none (by omega))] at hk
  exact hk cc h' (hf.more hs) (w.fm.trans ⟨f.size, fun k hk _ => f.same k (by omega) (by omega)⟩)
/-- what a part owes, from what the whole owes -/
theorem Wo.back {h0 : Heap} {b4 : Nat} {m : Res (U × Nat × Bool)} (w : Wo S n h0 h r ov l p op ac b4) (hk : Owes S n h0 r ov l op m R E) :
    Owes S n h r ov l op m (fun v h'' => pStore Tryz.prog 40 (.pointer (some ⟨b4, 0, none⟩)) v h'' fun h7 => pLoad Tryz.prog 40 (.pointer (some ⟨b4, 0, none⟩)) h7 fun x => R x h7) E := by
  have hs := w.fm.size
  have h4 := w.n4
  obtain ⟨cs, e1, e2⟩ := w.c4
  have l4 := at_lt e1
  cases m with
  | out => exact hk
  | bad a b => exact fun e h3 hf f3 => hk e h3 (hf.more (by omega)) (w.fm.trans (f3.less (by omega)))
  | ok x =>
    obtain ⟨t, p', ac'⟩ := x
    intro h3 vs f3 c3 ht
    exact (w.rdr f3 c3).ret (ht.frame fun b hb _ => ⟨⟨by omega, by omega⟩, rfl⟩) hk

def FactorOk (k : Nat) : Prop := ∀ {S : Glb} {n : Nat} {h : Heap} {r : Nat} {ov : Value} {l : List Op} {p op : Nat} {ac : Bool} {R : Value → Heap → Prop} {E : List PanicEntry → Heap → Prop},
  Cx S n h r ov l p op ac → Owes S n h r ov l op (factorM k l p op ac) R E → CallsH Tryz.prog 58 #[ptr r] h R E
def TermOk (k : Nat) : Prop := ∀ {S : Glb} {n : Nat} {h : Heap} {r : Nat} {ov : Value} {l : List Op} {p op : Nat} {ac : Bool} {R : Value → Heap → Prop} {E : List PanicEntry → Heap → Prop},
  Cx S n h r ov l p op ac → Owes S n h r ov l op (termM k l p op ac) R E → CallsH Tryz.prog 43 #[ptr r] h R E
def ExprOk (k : Nat) : Prop := ∀ {S : Glb} {n : Nat} {h : Heap} {r : Nat} {ov : Value} {l : List Op} {p op : Nat} {ac : Bool} {R : Value → Heap → Prop} {E : List PanicEntry → Heap → Prop},
  Cx S n h r ov l p op ac → Owes S n h r ov l op (exprM k l p op ac) R E → CallsH Tryz.prog 23 #[ptr r] h R E
theorem two_wk {h0 h1 : Heap} {b4 b5 kind : Nat} {t : U} {vs : List Value} {p' : Nat} {ac' : Bool} {u : U} {us : List Value} {K : Value → Heap → Prop} (w : Wk S n h0 h r ov l p op ac b4 b5 vs)
    (ht : IsSk h (fun b => h0.size ≤ b ∧ b ≠ b4 ∧ b ≠ b5) t vs) (f : Fm h.size r h h1) (c : Cx S n h1 r ov l p' op ac') (hu : IsSk h1 (fun b => h.size ≤ b) u us)
    (hK : ∀ h' ws, Wk S n h0 h' r ov l p' op ac' b4 b5 ws → IsSk h' (fun b => h0.size ≤ b ∧ b ≠ b4 ∧ b ≠ b5) (twoU kind t u) ws → K (.tuple #[]) h') :
    CallsH Tryz.prog 25 #[.int .i64 kind, .agg vs.toArray, .agg us.toArray] h1 (fun t33 h14 => True ∧ ((pStore Tryz.prog 40 (.pointer (some ⟨b5, 0, none⟩)) t33 h14 fun h15 => True ∧ K (.tuple #[]) h15) ∧ True)) E := by
  have w1 := w.rdr f c
  have hs := w.fm.size
  have hr := w.r0
  have h4 := w.n4; have h5 := w.n5
  obtain ⟨cs, e1, e2⟩ := w.c4
  have l4 := at_lt e1
  have l5 := at_lt w.c5
  have fs := f.size
  refine two_spec (Q := fun b => h0.size ≤ b ∧ b ≠ b4 ∧ b ≠ b5) (ht.frame fun b hb hlt => ⟨hb, f.same b hlt (by omega)⟩) (hu.frame fun b hb _ => ⟨⟨by omega, by omega, by omega⟩, rfl⟩) fun h2 ws f2 h2s => ?_
  have w2 := w1.fr f2
  refine ⟨trivial, storeFull w2.c5 (xs := ws.toArray) (by rw [Tryz.size40]; simp [h2s.len]) (by
    have : vs.length = 7 := ht.len
    simp [this, h2s.len]) (by simpa using h2s.flat) fun h3 u3 => ⟨trivial, hK h3 ws (w2.upd u3) ?_⟩, trivial⟩
  exact h2s.frame fun b hb hlt => ⟨by omega, u3.other b (by omega)⟩
theorem Wk.retT {h0 : Heap} {b4 b5 : Nat} {vs : List Value} {t : U} (w : Wk S n h0 h r ov l p op ac b4 b5 vs) (ht : IsSk h (fun b => h0.size ≤ b ∧ b ≠ b4 ∧ b ≠ b5) t vs) (hk : Owes S n h0 r ov l op (.ok (t, p, ac)) R E) :
    pLoad Tryz.prog 40 (.pointer (some ⟨b5, 0, none⟩)) h fun x => pStore Tryz.prog 40 (.pointer (some ⟨b4, 0, none⟩)) x h fun h' => pLoad Tryz.prog 40 (.pointer (some ⟨b4, 0, none⟩)) h' fun r => R r h' := by
  refine load_all w.c5 (by rw [Tryz.agg40]; simp [ht.len]) ?_
  exact w.ret (ht.frame fun b hb _ => ⟨⟨hb.1, hb.2.1⟩, rfl⟩) hk
/-- a first part, put into its block -/
theorem first_wk {h0 h1 h2 : Heap} {b4 p' : Nat} {ac' : Bool} {t : U} {vs : List Value} {K : Heap → Prop} (w : Wo S n h0 h r ov l p op ac b4) (f : Fm h.size r h h1) (c : Cx S n h1 r ov l p' op ac') (ht : IsSk h1 (fun b => h.size ≤ b) t vs)
    {z : Array Value} (hz : z.size = 7) (a2 : Al h1 h2 (.cells z 40 (0, 0))) (hK : ∀ h', Wk S n h0 h' r ov l p' op ac' b4 h1.size vs → IsSk h' (fun b => h0.size ≤ b ∧ b ≠ b4 ∧ b ≠ h1.size) t vs → K h') :
    pStore Tryz.prog 40 (.pointer (some ⟨h1.size, 0, none⟩)) (.agg vs.toArray) h2 K := by
  have w1 := w.rdr f c
  have s2 := a2.size
  have hs := w.fm.size
  have fs := f.size
  have hr := w.r0
  have h4 := w.n4
  have hn := w.n0
  obtain ⟨cs, e1, e2⟩ := w.c4
  have l4 := at_lt e1
  obtain ⟨cs', e1', e2'⟩ := w1.c4
  refine storeFull a2.at_ (xs := vs.toArray) (by rw [Tryz.size40]; simp [ht.len]) (by simp [hz, ht.len]) (by simpa using ht.flat) fun h3 u3 => ?_
  refine hK h3 ⟨(w1.fm.trans (Fm.al a2 (by omega))).trans (Fm.upd u3 (.inl (by omega))), (c.al a2).upd u3 (by omega) (by omega), w.n0, w.r0, ⟨cs', (u3.other _ (by omega)).trans ((a2.old _ (by omega)).trans e1'), e2'⟩, u3.same, h4, by omega, by omega⟩ ?_
  exact ht.frame fun b hb hlt => ⟨⟨by omega, by omega, by omega⟩, (u3.other b (by omega)).trans (a2.old b hlt)⟩

theorem expr_spec {k : Nat} (hT : ∀ j, j ≤ k → TermOk j) : ExprOk (k + 1) := by
  intro S n h r ov l p op ac R E c hk
  refine C23 ?_
  unfold S23
  refine alloc_rule Tryz.zero40 fun h1 a1 => ?_
  have s1 := a1.size
  have hr := c.rlt
  have w1 : Wo S n h h1 r ov l p op ac h.size := ⟨Fm.al a1 (Nat.le_refl _), c.al a1, c.nle, hr, ⟨_, a1.at_, rfl⟩, Nat.le_refl _⟩
  refine hT k (Nat.le_refl _) w1.cx ?_
  unfold exprM at hk
  cases hm : termM k l p op ac with
  | out => rw [hm] at hk; exact hk
  | bad a b => rw [hm] at hk; exact fun e h3 hf f3 => hk e h3 (hf.more (by omega)) (w1.fm.trans (f3.less (by omega)))
  | ok x =>
    obtain ⟨t, p', ac'⟩ := x
    rw [hm] at hk
    simp only at hk
    intro h2 vs f2 c2 ht
    refine alloc_rule Tryz.zero40 fun h3 a3 => ?_
    refine first_wk w1 f2 c2 ht rfl a3 fun h4 w4 ht4 => ?_
    refine Loop0.fuel (fun j h' => ∃ t vs p' ac', j ≤ k ∧ Wk S n h h' r ov l p' op ac' h.size h2.size vs ∧ IsSk h' (fun b => h.size ≤ b ∧ b ≠ h.size ∧ b ≠ h2.size) t vs ∧ Owes S n h r ov l op (exprL j l t p' op ac') R E) (n := k)
      ⟨t, vs, p', ac', Nat.le_refl _, w4, ht4, hk⟩ fun j h5 hi => ?_
    obtain ⟨t, vs, p', ac', hjk, w5, ht5, hk⟩ := hi
    cases j with
    | zero => exact (show False from by unfold exprL at hk; exact hk).elim
    | succ j =>
      unfold exprL at hk
      refine take_spec (s := kwO) w5.cx (fun hy h6 f6 c6 => ?_) (fun hn => ?_)
      · rw [if_pos hy] at hk
        rw [boolV_bool, bcase_true]
        have w6 := w5.rdr f6 c6
        have fs6 := f6.size
        have ht6 : IsSk h6 (fun b => h.size ≤ b ∧ b ≠ h.size ∧ b ≠ h2.size) t vs := ht5.frame fun b hb hlt => ⟨hb, f6.same b hlt (by omega)⟩
        refine ⟨fun h' => h'[h2.size]? = some (.cells vs.toArray 40 (0, 0)), w6.c5, pLoadS_all (by rw [Tryz.agg40]; simp [ht6.len]) (fun h' hs => hs) ⟨hT j (by omega) w6.cx ?_, trivial⟩⟩
        have hs6 := w6.fm.size
        cases hm : termM j l (p' + 1) op ac' with
        | out => rw [hm] at hk; exact hk
        | bad a b => rw [hm] at hk; exact fun e h3 hf f3 => hk e h3 (hf.more (by omega)) (w6.fm.trans (f3.less (by omega)))
        | ok x =>
          obtain ⟨u, p2, ac2⟩ := x
          rw [hm] at hk
          intro h7 us f7 c7 hu
          refine ⟨(f7.same _ (at_lt w6.c5) (by have := w6.n5; omega)).trans w6.c5, ?_, trivial⟩
          refine two_wk (kind := 2) w6 ht6 f7 c7 hu (K := fun _ h15 => ∃ j', j' < j + 1 ∧ ∃ t vs p' ac', j' ≤ k ∧ Wk S n h h15 r ov l p' op ac' h.size h2.size vs ∧ IsSk h15 (fun b => h.size ≤ b ∧ b ≠ h.size ∧ b ≠ h2.size) t vs ∧ Owes S n h r ov l op (exprL j' l t p' op ac') R E) fun h8 ws w8 ht8 => ?_
          exact ⟨j, by omega, _, ws, p2, ac2, by omega, w8, ht8, hk⟩
      · rw [if_neg (by simp [hn])] at hk
        rw [boolV_bool, bcase_false]
        exact w5.retT ht5 hk

theorem term_spec {k : Nat} (hF : ∀ j, j ≤ k → FactorOk j) : TermOk (k + 1) := by
  intro S n h r ov l p op ac R E c hk
  refine C43 ?_
  unfold S43
  refine alloc_rule Tryz.zero40 fun h1 a1 => ?_
  have s1 := a1.size
  have hr := c.rlt
  have w1 : Wo S n h h1 r ov l p op ac h.size := ⟨Fm.al a1 (Nat.le_refl _), c.al a1, c.nle, hr, ⟨_, a1.at_, rfl⟩, Nat.le_refl _⟩
  refine hF k (Nat.le_refl _) w1.cx ?_
  unfold termM at hk
  cases hm : factorM k l p op ac with
  | out => rw [hm] at hk; exact hk
  | bad a b => rw [hm] at hk; exact fun e h3 hf f3 => hk e h3 (hf.more (by omega)) (w1.fm.trans (f3.less (by omega)))
  | ok x =>
    obtain ⟨t, p', ac'⟩ := x
    rw [hm] at hk
    simp only at hk
    intro h2 vs f2 c2 ht
    refine alloc_rule Tryz.zero40 fun h3 a3 => ?_
    refine first_wk w1 f2 c2 ht rfl a3 fun h4 w4 ht4 => ?_
    refine Loop0.fuel (fun j h' => ∃ t vs p' ac', j ≤ k ∧ Wk S n h h' r ov l p' op ac' h.size h2.size vs ∧ IsSk h' (fun b => h.size ≤ b ∧ b ≠ h.size ∧ b ≠ h2.size) t vs ∧ Owes S n h r ov l op (termL j l t p' op ac') R E) (n := k)
      ⟨t, vs, p', ac', Nat.le_refl _, w4, ht4, hk⟩ fun j h5 hi => ?_
    obtain ⟨t, vs, p', ac', hjk, w5, ht5, hk⟩ := hi
    cases j with
    | zero => exact (show False from by unfold termL at hk; exact hk).elim
    | succ j =>
      unfold termL at hk
      refine Join0.intro (fun h' => ∃ q, q = (if isO l kwA p' then p' + 1 else p') ∧ ¬ (isO l kwA p' = false ∧ (l.length ≤ p' ∨ isO l kwO p' = true ∨ isO l [41] p' = true)) ∧ Wk S n h h' r ov l q op ac' h.size h2.size vs ∧ IsSk h' (fun b => h.size ≤ b ∧ b ≠ h.size ∧ b ≠ h2.size) t vs) ?_ ?_
      · refine ⟨take_spec (s := kwA) w5.cx (fun hy h6 f6 c6 => ?_) (fun hn => ?_), trivial⟩
        · refine ⟨trivial, ?_⟩
          have w6 := w5.rdr f6 c6
          have ht6 : IsSk h6 (fun b => h.size ≤ b ∧ b ≠ h.size ∧ b ≠ h2.size) t vs := ht5.frame fun b hb hlt => ⟨hb, f6.same b hlt (by omega)⟩
          simp only [reads_not, boolV_bool, Bool.not_true, bcase_false, true_and, and_true]
          exact ⟨_, rfl, by simp [hy], by rw [if_pos hy]; exact w6, ht6⟩
        · refine ⟨trivial, ?_⟩
          have hl := w5.cx.len
          have out : (l.length ≤ p' ∨ isO l kwO p' = true ∨ isO l [41] p' = true) → pLoad Tryz.prog 40 (.pointer (some ⟨h2.size, 0, none⟩)) h5 fun x => pStore Tryz.prog 40 (.pointer (some ⟨h.size, 0, none⟩)) x h5 fun h' => pLoad Tryz.prog 40 (.pointer (some ⟨h.size, 0, none⟩)) h' fun r => R r h' := by
            intro ho
            rw [if_pos ⟨hn, ho⟩] at hk
            exact w5.retT ht5 hk
          simp only [reads_not, boolV_bool, Bool.not_false, bcase_true, and_true, true_and]
          simp only [boolV_bool, bcase_true, bcase_false, need, Tryz.zero40, Tryz.size40, reads_nil, Tryz.fa63_1, addr_add, Tryz.agg3, Tryz.fa63_0, Tryz.agg22, reads_ge, reads_pick, Tryz.agg40, w5.cx.ld0, w5.cx.ld1, Nat.zero_add, reads_olen w5.cx.by_, dec_nn_le]
          refine bcase_of (fun hc => out (.inl (of_decide_eq_true hc))) (fun hc => ?_)
          have hc := of_decide_eq_false hc
          refine is_spec (s := kwO) w5.cx ?_
          simp only [boolV_bool]
          refine bcase_of (fun hc => out (.inr (.inl hc))) (fun hc2 => ?_)
          refine is_spec w5.cx ?_
          simp only [boolV_bool]
          refine bcase_of (fun hc => out (.inr (.inr hc))) (fun hc3 => ?_)
          exact ⟨_, rfl, by simp [hc, hc2, hc3], by rw [hn]; simpa using w5, ht5⟩
      · rintro h6 ⟨q, hq, hno, w6, ht6⟩
        rw [if_neg hno, ← hq] at hk
        refine ⟨fun h' => h'[h2.size]? = some (.cells vs.toArray 40 (0, 0)), w6.c5, pLoadS_all (by rw [Tryz.agg40]; simp [ht6.len]) (fun h' hs => hs) ⟨hF j (by omega) w6.cx ?_, trivial⟩⟩
        have hs6 := w6.fm.size
        cases hm : factorM j l q op ac' with
        | out => rw [hm] at hk; exact hk
        | bad a b => rw [hm] at hk; exact fun e h3 hf f3 => hk e h3 (hf.more (by omega)) (w6.fm.trans (f3.less (by omega)))
        | ok x =>
          obtain ⟨u, p2, ac2⟩ := x
          rw [hm] at hk
          intro h7 us f7 c7 hu
          refine ⟨(f7.same _ (at_lt w6.c5) (by have := w6.n5; omega)).trans w6.c5, ?_, trivial⟩
          refine two_wk (kind := 1) w6 ht6 f7 c7 hu (K := fun _ h15 => ∃ j', j' < j + 1 ∧ ∃ t vs p' ac', j' ≤ k ∧ Wk S n h h15 r ov l p' op ac' h.size h2.size vs ∧ IsSk h15 (fun b => h.size ≤ b ∧ b ≠ h.size ∧ b ≠ h2.size) t vs ∧ Owes S n h r ov l op (termL j' l t p' op ac') R E) fun h8 ws w8 ht8 => ?_
          exact ⟨j, by omega, _, ws, p2, ac2, by omega, w8, ht8, hk⟩
end Rt
end Go.Proofs
