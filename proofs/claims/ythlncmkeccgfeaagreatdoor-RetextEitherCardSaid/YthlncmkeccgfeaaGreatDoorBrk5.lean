/- A part of the proofs over this seat: Brk5. -/
import Derived.Test.YthlncmkeccgfeaaGreatDoorBrk4
set_option linter.unusedVariables false
set_option linter.unusedSimpArgs false
set_option maxRecDepth 100000
namespace Go.Proofs
open Go.Vcg Go.Extern
namespace Rt
attribute [local congr] Reads.congr ReadsS.congr pLoad.congr pLoadS.congr pStore.congr Runs.congr CallsH.congr bcase.congr boolV.congr Stable.congr pAlloc.congr
variable {S : Glb} {n : Nat} {h : Heap} {r : Nat} {bv : Value} {l : List UInt8} {p lang : Nat} {ext : Bool} {op gr : Nat} {R : Value → Heap → Prop} {E : List PanicEntry → Heap → Prop}

theorem itemS_bad {code pos : Nat} (hp : p < l.length) (h : itemS lang l p = .bad code pos) : code = 8 ∧ pos ≤ l.length := by
  unfold itemS at h
  split at h
  · cases h; exact ⟨rfl, by omega⟩
  split at h
  · split at h
    · split at h
      · cases h
      · cases h; exact ⟨rfl, by omega⟩
    · cases h; exact ⟨rfl, by omega⟩
  split at h
  · split at h
    · cases h
    · cases h; exact ⟨rfl, by omega⟩
  · cases h
theorem itemS_out (h : itemS lang l p = .out) : False := by
  unfold itemS at h
  split at h
  · cases h
  split at h
  · split at h
    · split at h <;> cases h
    · cases h
  split at h
  · split at h <;> cases h
  · cases h
theorem rangedS_bad {x : ItemR} {frm code pos : Nat} (hf : frm ≤ l.length) (h : rangedS lang l frm x = .bad code pos) : (code = 8 ∨ code = 7) ∧ pos ≤ l.length := by
  unfold rangedS at h
  split at h
  · cases h
  · rename_i hc
    simp only [Bool.or_eq_true, decide_eq_true_eq, not_or] at hc
    split at h
    · split at h
      · cases h; exact ⟨.inl rfl, by omega⟩
      · split at h
        · cases h; exact ⟨.inr rfl, hf⟩
        · cases h
    · rename_i a b hz
      cases h
      have := itemS_bad (by omega) hz
      exact ⟨.inl this.1, this.2⟩
    · cases h
theorem rangedS_out {x : ItemR} {frm : Nat} (h : rangedS lang l frm x = .out) : False := by
  unfold rangedS at h
  split at h
  · cases h
  · split at h
    · split at h
      · cases h
      · split at h <;> cases h
    · cases h
    · rename_i hz
      exact itemS_out hz
theorem readL_end : ∀ (k : Nat) {first : Bool} {s : W4} {p : Nat}, p ≤ l.length → s.ok → l.length < k + p → match readL lang l k first s p with
    | .out => False
    | .bad code pos => (code = 8 ∨ code = 7) ∧ pos ≤ l.length
    | .ok y => y.1.ok ∧ p < y.2 ∧ y.2 ≤ l.length
  | 0, first, s, p, hp, hs, hk => by omega
  | k + 1, first, s, p, hp, hs, hk => by
    unfold readL
    by_cases h1 : l.length ≤ p
    · rw [if_pos h1]
      exact ⟨.inl rfl, Nat.le_refl _⟩
    rw [if_neg h1]
    by_cases h2 : (!first && isB l p 93) = true
    · rw [if_pos h2]
      exact ⟨hs, by simp, by simp; omega⟩
    rw [if_neg h2]
    cases hx : itemS lang l p with
    | out => exact itemS_out hx
    | bad a b =>
      have := itemS_bad (by omega) hx
      exact ⟨.inl this.1, this.2⟩
    | ok x =>
      have hle := itemS_le (by omega) hx
      have hok := itemS_ok hx
      simp only
      cases hy : rangedS lang l p x with
      | out => exact rangedS_out hy
      | bad a b => exact rangedS_bad (by omega) hy
      | ok y =>
        obtain ⟨t, p'⟩ := y
        have h3 := rangedS_ok hok hy
        have h4 := rangedS_le hle.2 hy
        simp only at h3 h4
        have := readL_end k (first := false) (s := unionM [s, t]) (p := p') (by omega) (unionM_ok (by simp [hs, h3])) (by omega)
        simp only
        split <;> rename_i e <;> rw [e] at this
        · exact this
        · exact this
        · exact ⟨this.1, by omega, this.2.2⟩
theorem bracketS_end (hp : p ≤ l.length) : match bracketS lang l p with
    | .out => False
    | .bad code pos => (code = 8 ∨ code = 7) ∧ pos ≤ l.length
    | .ok y => y.1.ok ∧ p < y.2 ∧ y.2 ≤ l.length := by
  have hq : (if turnedS lang l p then p + 1 else p) ≤ l.length ∧ p ≤ (if turnedS lang l p then p + 1 else p) := by
    split
    · rename_i ht
      unfold turnedS at ht
      simp only [Bool.or_eq_true, Bool.and_eq_true] at ht
      rcases ht with e | e
      · have := isB_lt e; omega
      · have := isB_lt e.1; omega
    · omega
  have := readL_end (lang := lang) (l := l) (l.length + 1) (first := true) (s := W4.zero) (p := if turnedS lang l p then p + 1 else p) hq.1 W4.zero_ok (by omega)
  unfold bracketS
  cases hr : readL lang l (l.length + 1) true .zero (if turnedS lang l p then p + 1 else p) with
  | out => rw [hr] at this; exact this
  | bad a b => rw [hr] at this; exact this
  | ok y =>
    rw [hr] at this
    obtain ⟨s, q⟩ := y
    simp only at this ⊢
    refine ⟨?_, by omega, this.2.2⟩
    split
    · exact W4.not_ok _
    · exact this.1

def langN (ext : Bool) : Nat := if ext then 4 else 3
def brkM (ext : Bool) (l : List UInt8) (p : Nat) : Res (T × Nat) :=
  match bracketS (langN ext) l p with
  | .ok x => .ok (.node 1 x.1 0 0 0 [], x.2)
  | .bad a b => .bad a b
  | .out => .out
theorem cx_bracket (c : Cx S n h r bv l p ext op gr) (hk : OwesB S h (langN ext) (bracketS (langN ext) l p) R) : CallsH Tryz.prog 119 #[bv, .int .i64 p, .int .i64 (if ext then 4 else 3)] h R E := by
  have hn := c.nle
  have hN := c.n22
  have hl := c.len
  have e : Value.int .i64 (if ext then 4 else 3) = .int .i64 (langN ext : Nat) := by cases ext <;> rfl
  rw [e]
  refine set_bracket_spec c.gl (by omega) c.by_ (fun b o m k hv => by have := (c.ne b o m k hv).2; omega) c.le (by omega) ?_ hk
  cases ext
  · exact .inr (.inl rfl)
  · exact .inr (.inr rfl)

def tailB (t0 t2 t3 t19 t20 : Value) (R : Value → Heap → Prop) (E : List PanicEntry → Heap → Prop) (h5 : Heap) : Prop :=
  Join0 (fun J2 =>
    Reads Tryz.prog (binS .neq 26 true t20 .nilIface) h5 fun t22 =>
    boolV t22 fun b3 => bcase b3 (
      Reads Tryz.prog (Instr.build 62 #[(0, t20)]) h5 fun t24 =>
      Reads Tryz.prog (Instr.makeInterface 62 t24) h5 fun t25 =>
      Runs Tryz.prog (vS (Instr.panic t25)) h5 (fun u4 h6 =>
      J2 h6) E) (
      J2 h5))
  (fun h7 =>
  Reads Tryz.prog (nilS t0) h7 fun t28 =>
  Reads Tryz.prog (Instr.fieldAt 57 t28 1) h7 fun t29 =>
  pStore Tryz.prog 3 t29 t19 h7 fun h8 =>
  pLoad Tryz.prog 33 t3 h8 fun t30 =>
  Reads Tryz.prog (Instr.build 36 #[(0, (.int .i64 1)), (1, t30)]) h8 fun t31 =>
  pStore Tryz.prog 36 t2 t31 h8 fun h9 =>
  pLoad Tryz.prog 36 t2 h9 fun r5 => R r5 h9)
theorem tail_bad {t0 t2 t3 t19 e : Value} {q code pos : Nat} (he : IsErr S h q (langN ext) code pos e) (hk : ∀ c, Fails S h q ext code pos c → E c h) : tailB t0 t2 t3 t19 e R E h := by
  obtain ⟨a, b, _, _, rfl, _⟩ := id he
  unfold tailB
  refine Join0.intro (fun _ => False) ?_ (fun _ hf => hf.elim)
  rw [Tryz.neq26_s, boolV_bool, bcase_true, Tryz.bd62_0, reads_mkiface Tryz.underlying62 (by simp)]
  exact runs_panic rfl (hk _ ⟨_, he, rfl⟩)
theorem tail_ok {q b2 b3 : Nat} {s : W4} {cs : Array Value} (c : Cx S n h r bv l p ext op gr) (r2 : h[b2]? = some (.cells cs 36 (0, 0))) (z : cs.size = 9) (a3 : At h b3 s) (hq : q ≤ l.length) (n2 : n ≤ b2) (x2 : b2 ≠ r) (x3 : b3 ≠ r)
    (hk : ∀ h9, h9.size = h.size → (∀ k, k ≠ r → k ≠ b2 → h9[k]? = h[k]?) → Cx S n h9 r bv l q ext op gr → R (.agg (reL 1 s 0 0 0 (.slice none 0 0)).toArray) h9) : tailB (ptr r) (.pointer (some ⟨b2, 0, none⟩)) (.pointer (some ⟨b3, 0, none⟩)) (.int .i64 q) .nilIface R E h := by
  unfold tailB
  refine Join0.intro (fun h' => h' = h) ?_ ?_
  · rw [Tryz.neq26_n, boolV_bool, bcase_false]
  rintro h7 rfl
  rw [reads_nil, Tryz.fa57_1, addr_add, Nat.zero_add]
  refine store1 c.rd Tryz.size3 rfl (by simp) fun h8 u8 => ?_
  have s8 := u8.size
  obtain ⟨f8, c8⟩ := c.at_ (p' := q) u8 hq
  refine getSet ((u8.other _ x3).trans a3) ?_
  rw [show Value.agg s.vals.toArray = .agg #[.int .u64 s.a, .int .u64 s.b, .int .u64 s.c, .int .u64 s.d] from rfl, Tryz.bd36_0_1]
  refine ret_full ((u8.other _ x2).trans r2) (xs := (reL 1 s 0 0 0 (.slice none 0 0)).toArray) Tryz.size36 Tryz.agg36 z (flat_reL rfl) fun h9 u9 => ?_
  exact hk h9 (u9.size.trans s8) (fun k k1 k2 => (u9.other _ k2).trans (u8.other _ k1)) (c8.upd u9 n2 x2)
theorem bracket_spec (c : Cx S n h r bv l p ext op gr) (hk : Owes S n h r bv l ext op ((brkM ext l p).with gr) R E) : CallsH Tryz.prog 107 #[ptr r] h R E := by
  have hr := c.rlt
  have hn := c.nle
  have hend := bracketS_end (lang := langN ext) c.le
  unfold brkM at hk
  refine C107 ?_
  unfold S107
  refine alloc_rule Tryz.zero36 fun h1 a1 => ?_
  have s1 := a1.size
  have c1 := c.al a1
  have f1 : Fm h.size r h h1 := Fm.al a1 (Nat.le_refl _)
  refine ⟨fun h' => Rdr h' r bv p ext op gr, c1.rd, ?_⟩
  refine readsS_lift (fun h k => reads_nil) ?_
  refine readsS_lift (fun h k => Tryz.fa57_0) ?_
  rw [addr_add]
  refine pLoadS_one Tryz.agg29 (v := bv) (fun h' hh => by rw [hcell_of hh]; rfl) ?_
  refine readsS_lift (fun h k => reads_nil) ?_
  refine readsS_lift (fun h k => Tryz.fa57_1) ?_
  rw [addr_add, Nat.zero_add]
  refine pLoadS_one Tryz.agg3 (v := .int .i64 p) (fun h' hh => by rw [hcell_of hh]; rfl) ?_
  -- the end, from whichever order
  have last : ∀ {h5 : Heap} {b3 q : Nat} {s : W4}, (∃ y, bracketS (langN ext) l p = .ok y ∧ y = (s, q)) → Fm h.size r h h5 → h5[h.size]? = h1[h.size]? → Cx S n h5 r bv l p ext op gr → At h5 b3 s → h.size < b3 →
      tailB (ptr r) (.pointer (some ⟨h.size, 0, none⟩)) (.pointer (some ⟨b3, 0, none⟩)) (.int .i64 q) .nilIface R E h5 := by
    rintro h5 b3 q s ⟨y, hy, rfl⟩ f5 e5 c5 a5 hb3
    rw [hy] at hk hend
    refine tail_ok c5 (e5.trans a1.at_) rfl a5 hend.2.2 hn (by omega) (by omega) fun h9 s9 o9 c9 => ?_
    exact hk h9 _ (f5.trans ⟨by omega, fun k k1 k2 => o9 k k2 (by omega)⟩) c9 IsRe.leaf
  have lastB : ∀ {h5 h4 : Heap} {t2 t3 t19 e : Value} {code pos : Nat}, bracketS (langN ext) l p = .bad code pos → Fm h.size r h h5 → IsErr S h5 h.size (langN ext) code pos e → tailB (ptr r) t2 t3 t19 e R E h5 := by
    rintro h5 h4 t2 t3 t19 e code pos hy f5 he
    rw [hy] at hk
    exact tail_bad he fun c hc => hk c h5 hc f5
  refine ⟨lang_spec c1 ⟨c1.rd, cx_bracket c1 ?_, ?_⟩, ?_, trivial⟩
  · -- the call, then the place
    cases hm : bracketS (langN ext) l p with
    | out => rw [hm] at hend; exact hend.elim
    | bad code pos =>
      intro h3 e f3 he
      have s3 := f3.size
      have f3' : Fm h.size r h1 h3 := ⟨s3, fun k k1 k2 => f3.same k (by omega) (by omega)⟩
      have c3 := c1.still (f3'.less hn) (f3.same r (by omega) (by omega))
      refine ⟨c3.rd, ?_⟩
      refine readsS_lift (fun h k => reads_ext0) (readsS_lift (fun h k => reads_ext1) (readsS_lift (fun h k => reads_ext2) ⟨?_, trivial⟩))
      refine alloc_rule Tryz.zero33 fun h4 a4 => ?_
      have s4 := a4.size
      have c4 := c3.al a4
      refine ⟨c4.rd, ?_, trivial⟩
      refine putSet (s := W4.zero) a4.at_ rfl fun h5 u5 => ?_
      have s5 := u5.size
      have c5 := c4.upd u5 (by omega) (by omega)
      refine ⟨c5.rd, ?_⟩
      refine lastB (h4 := h4) hm (f1.trans (f3'.trans ((Fm.al a4 (by omega)).trans (Fm.upd u5 (.inl (by omega)))))) ?_
      exact (he.fm fun k k1 k2 => by rw [u5.other _ (by omega), a4.old _ (by omega)]).less (by omega)
    | ok y =>
      intro h3 f3
      have s3 := f3.size
      have f3' : Fm h.size r h1 h3 := ⟨s3, fun k k1 k2 => f3.same k (by omega) (by omega)⟩
      have c3 := c1.still (f3'.less hn) (f3.same r (by omega) (by omega))
      refine ⟨c3.rd, ?_⟩
      refine readsS_lift (fun h k => reads_ext0) (readsS_lift (fun h k => reads_ext1) (readsS_lift (fun h k => reads_ext2) ⟨?_, trivial⟩))
      refine alloc_rule Tryz.zero33 fun h4 a4 => ?_
      have s4 := a4.size
      have c4 := c3.al a4
      refine ⟨c4.rd, ?_, trivial⟩
      refine putSet (s := y.1) a4.at_ rfl fun h5 u5 => ?_
      have s5 := u5.size
      have c5 := c4.upd u5 (by omega) (by omega)
      refine ⟨c5.rd, ?_⟩
      exact last ⟨y, hm, rfl⟩ (f1.trans (f3'.trans ((Fm.al a4 (by omega)).trans (Fm.upd u5 (.inl (by omega)))))) (by rw [u5.other _ (by omega), a4.old _ (by omega), f3.same _ (by omega) (by omega)]) c5 u5.same (by omega)
  · refine ⟨?_, trivial⟩
    refine alloc_rule Tryz.zero33 fun h10 a10 => ?_
    have s10 := a10.size
    have c10 := c1.al a10
    refine ⟨c10.rd, cx_bracket c10 ?_, trivial⟩
    cases hm : bracketS (langN ext) l p with
    | out => rw [hm] at hend; exact hend.elim
    | bad code pos =>
      intro h3 e f3 he
      have s3 := f3.size
      have f3' : Fm h.size r h10 h3 := ⟨s3, fun k k1 k2 => f3.same k (by omega) (by omega)⟩
      have c3 := c10.still (f3'.less hn) (f3.same r (by omega) (by omega))
      refine ⟨c3.rd, ?_⟩
      refine readsS_lift (fun h k => reads_ext0) (readsS_lift (fun h k => reads_ext1) (readsS_lift (fun h k => reads_ext2) ⟨?_, trivial⟩))
      refine putSet (s := W4.zero) ((f3.same _ (by omega) (by omega)).trans a10.at_) rfl fun h5 u5 => ?_
      have s5 := u5.size
      have c5 := c3.upd u5 (by omega) (by omega)
      refine ⟨c5.rd, ?_⟩
      refine lastB (h4 := h3) hm (f1.trans ((Fm.al a10 (by omega)).trans (f3'.trans (Fm.upd u5 (.inl (by omega)))))) ?_
      exact (he.fm fun k k1 k2 => by rw [u5.other _ (by omega)]).less (by omega)
    | ok y =>
      intro h3 f3
      have s3 := f3.size
      have f3' : Fm h.size r h10 h3 := ⟨s3, fun k k1 k2 => f3.same k (by omega) (by omega)⟩
      have c3 := c10.still (f3'.less hn) (f3.same r (by omega) (by omega))
      refine ⟨c3.rd, ?_⟩
      refine readsS_lift (fun h k => reads_ext0) (readsS_lift (fun h k => reads_ext1) (readsS_lift (fun h k => reads_ext2) ⟨?_, trivial⟩))
      refine putSet (s := y.1) ((f3.same _ (by omega) (by omega)).trans a10.at_) rfl fun h5 u5 => ?_
      have s5 := u5.size
      have c5 := c3.upd u5 (by omega) (by omega)
      refine ⟨c5.rd, ?_⟩
      exact last ⟨y, hm, rfl⟩ (f1.trans ((Fm.al a10 (by omega)).trans (f3'.trans (Fm.upd u5 (.inl (by omega)))))) (by rw [u5.other _ (by omega), f3.same _ (by omega) (by omega), a10.old _ (by omega)]) c5 u5.same (by omega)
  · refine alloc_rule Tryz.zero33 fun h10 a10 => ?_
    have s10 := a10.size
    have c10 := c1.al a10
    refine ⟨c10.rd, ?_, trivial⟩
    refine lang_spec c10 ⟨c10.rd, cx_bracket c10 ?_, trivial⟩
    cases hm : bracketS (langN ext) l p with
    | out => rw [hm] at hend; exact hend.elim
    | bad code pos =>
      intro h3 e f3 he
      have s3 := f3.size
      have f3' : Fm h.size r h10 h3 := ⟨s3, fun k k1 k2 => f3.same k (by omega) (by omega)⟩
      have c3 := c10.still (f3'.less hn) (f3.same r (by omega) (by omega))
      refine ⟨c3.rd, ?_⟩
      refine readsS_lift (fun h k => reads_ext0) (readsS_lift (fun h k => reads_ext1) (readsS_lift (fun h k => reads_ext2) ⟨?_, trivial⟩))
      refine putSet (s := W4.zero) ((f3.same _ (by omega) (by omega)).trans a10.at_) rfl fun h5 u5 => ?_
      have s5 := u5.size
      have c5 := c3.upd u5 (by omega) (by omega)
      refine ⟨c5.rd, ?_⟩
      refine lastB (h4 := h3) hm (f1.trans ((Fm.al a10 (by omega)).trans (f3'.trans (Fm.upd u5 (.inl (by omega)))))) ?_
      exact (he.fm fun k k1 k2 => by rw [u5.other _ (by omega)]).less (by omega)
    | ok y =>
      intro h3 f3
      have s3 := f3.size
      have f3' : Fm h.size r h10 h3 := ⟨s3, fun k k1 k2 => f3.same k (by omega) (by omega)⟩
      have c3 := c10.still (f3'.less hn) (f3.same r (by omega) (by omega))
      refine ⟨c3.rd, ?_⟩
      refine readsS_lift (fun h k => reads_ext0) (readsS_lift (fun h k => reads_ext1) (readsS_lift (fun h k => reads_ext2) ⟨?_, trivial⟩))
      refine putSet (s := y.1) ((f3.same _ (by omega) (by omega)).trans a10.at_) rfl fun h5 u5 => ?_
      have s5 := u5.size
      have c5 := c3.upd u5 (by omega) (by omega)
      refine ⟨c5.rd, ?_⟩
      exact last ⟨y, hm, rfl⟩ (f1.trans ((Fm.al a10 (by omega)).trans (f3'.trans (Fm.upd u5 (.inl (by omega)))))) (by rw [u5.other _ (by omega), f3.same _ (by omega) (by omega), a10.old _ (by omega)]) c5 u5.same (by omega)
end Rt
end Go.Proofs
