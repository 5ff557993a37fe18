/- A part of the proofs over this seat: Par. -/
import Derived.Test.YthlncmkeccgfeaaGreatDoorSets
set_option linter.unusedVariables false
set_option linter.unusedSimpArgs false
set_option maxRecDepth 100000
namespace Go.Proofs
open Go.Vcg
namespace Rt
attribute [local congr] Reads.congr ReadsS.congr pLoad.congr pLoadS.congr pStore.congr Runs.congr CallsH.congr bcase.congr boolV.congr Stable.congr pAlloc.congr

/-! ### The reader -/
def Rdr (h : Heap) (r : Nat) (bv : Value) (p : Nat) (ext : Bool) (op gr : Nat) : Prop :=
  h[r]? = some (.cells #[bv, .int .i64 p, .bool ext, .int .i64 op, .int .i64 gr] 57 (0, 0))
/-- the package's variables: what they hold; below N lies all that they reach -/
structure Glb where
  v : Nat → Value
  N : Nat
/-- the errors at the bottom, each a pointer of its own; the type of errors; the greatest length of a search -/
structure Gl (S : Glb) (h : Heap) : Prop where
  n26 : 26 ≤ S.N
  s : ∀ i, i < 22 → i ≠ 10 → hcell h ⟨i, 0, none⟩ = some (S.v i) ∧ ∃ a, S.v i = .iface 199 (.pointer (some a)) ∧ a.block < S.N ∧ ∃ c t, h[a.block]? = some (.cells c t (0, 0))
  inj : ∀ i j, i < 22 → i ≠ 10 → j < 22 → j ≠ 10 → S.v i = S.v j → i = j
  t : hcell h ⟨10, 0, none⟩ = some (.iface 117 (.agg #[.pointer (some ⟨26, 26, none⟩)]))
  m : ∃ m, hcell h ⟨22, 0, none⟩ = some (.int .i64 m)
structure Cx (S : Glb) (n : Nat) (h : Heap) (r : Nat) (bv : Value) (l : List UInt8) (p : Nat) (ext : Bool) (op gr : Nat) : Prop where
  rd : Rdr h r bv p ext op gr
  by_ : IsBytes h bv l
  ne : ∀ b o m c, bv = .slice (some ⟨b, o, none⟩) m c → b ≠ r ∧ b < n
  le : p ≤ l.length
  len : l.length ≤ 256
  gl : Gl S h
  r22 : S.N ≤ r
  n22 : S.N ≤ n
  nle : n ≤ h.size
  opg : op ≤ gr
  g9 : gr ≤ 9
variable {S : Glb} {n : Nat} {h : Heap} {r : Nat} {bv : Value} {l : List UInt8} {p : Nat} {ext : Bool} {op gr : Nat} {R : Value → Heap → Prop} {E : List PanicEntry → Heap → Prop}

theorem Gl.fm {h' : Heap} (g : Gl S h) (f : Fm n r h h') (hn : S.N ≤ n) (hr : S.N ≤ r) : Gl S h' := by
  have h26 := g.n26
  have key : ∀ i v, i < 26 → hcell h ⟨i, 0, none⟩ = some v → hcell h' ⟨i, 0, none⟩ = some v := by
    intro i v hi h1
    rw [hcell_mk, f.same i (by omega) (by omega), ← hcell_mk]
    exact h1
  refine ⟨h26, fun i hi h10 => ⟨key i _ (by omega) (g.s i hi h10).1, ?_⟩, g.inj, key 10 _ (by omega) g.t, ?_⟩
  · obtain ⟨a, e1, e2, c, t, e3⟩ := (g.s i hi h10).2
    exact ⟨a, e1, e2, c, t, (f.same _ (by omega) (by omega)).trans e3⟩
  · obtain ⟨m, hm⟩ := g.m
    exact ⟨m, key 22 _ (by omega) hm⟩
/-- the reader has gone on -/
theorem Cx.on {h' : Heap} {p' op' gr' : Nat} (c : Cx S n h r bv l p ext op gr) (f : Fm n r h h') (hr : Rdr h' r bv p' ext op' gr') (hp : p' ≤ l.length) (ho : op' ≤ gr') (hg : gr' ≤ 9) : Cx S n h' r bv l p' ext op' gr' :=
  ⟨hr, c.by_.frame fun b o k hv => f.same b (c.ne b o _ k hv).2 (c.ne b o _ k hv).1, c.ne, hp, c.len, c.gl.fm f c.n22 c.r22, c.r22, c.n22, Nat.le_trans c.nle f.size, ho, hg⟩
/-- the reader has not been touched -/
theorem Cx.still {h' : Heap} (c : Cx S n h r bv l p ext op gr) (f : Fm n r h h') (hr : h'[r]? = h[r]?) : Cx S n h' r bv l p ext op gr :=
  c.on f (hr.trans c.rd) c.le c.opg c.g9
theorem Cx.more {m : Nat} (c : Cx S n h r bv l p ext op gr) (h1 : n ≤ m) (h2 : m ≤ h.size) : Cx S m h r bv l p ext op gr :=
  ⟨c.rd, c.by_, fun b o k d hv => ⟨(c.ne b o k d hv).1, Nat.lt_of_lt_of_le (c.ne b o k d hv).2 h1⟩, c.le, c.len, c.gl, c.r22, Nat.le_trans c.n22 h1, h2, c.opg, c.g9⟩
theorem Cx.rlt (c : Cx S n h r bv l p ext op gr) : r < h.size := at_lt c.rd
theorem Cx.al {h' : Heap} {o : Obj} (c : Cx S n h r bv l p ext op gr) (a : Al h h' o) : Cx S n h' r bv l p ext op gr :=
  c.still (Fm.al a c.nle) (a.old _ c.rlt)
theorem Cx.upd {h' : Heap} {o : Obj} {b : Nat} (c : Cx S n h r bv l p ext op gr) (u : Upd h h' b o) (hb : n ≤ b) (hr : b ≠ r) : Cx S n h' r bv l p ext op gr :=
  c.still (Fm.upd u (.inl hb)) (u.other _ (Ne.symm hr))

theorem pLoad_one {P : Program} {T : TypeId} {a : Addr} {v : Value} {k : Value → Prop} (hT : aggN P T = some none) (hc : hcell h a = some v) : pLoad P T (.pointer (some a)) h k = k v := by
  simp [pLoad, hT, hc]
theorem Cx.ld0 {k : Value → Prop} (c : Cx S n h r bv l p ext op gr) : pLoad Tryz.prog 29 (.pointer (some ⟨r, 0, none⟩)) h k = k bv := pLoad_one Tryz.agg29 (by rw [hcell_of c.rd]; rfl)
theorem Cx.ld1 {k : Value → Prop} (c : Cx S n h r bv l p ext op gr) : pLoad Tryz.prog 3 (.pointer (some ⟨r, 1, none⟩)) h k = k (.int .i64 p) := pLoad_one Tryz.agg3 (by rw [hcell_of c.rd]; rfl)
theorem Cx.ld2 {k : Value → Prop} (c : Cx S n h r bv l p ext op gr) : pLoad Tryz.prog 4 (.pointer (some ⟨r, 2, none⟩)) h k = k (.bool ext) := pLoad_one Tryz.agg4 (by rw [hcell_of c.rd]; rfl)
theorem Cx.ld3 {k : Value → Prop} (c : Cx S n h r bv l p ext op gr) : pLoad Tryz.prog 3 (.pointer (some ⟨r, 3, none⟩)) h k = k (.int .i64 op) := pLoad_one Tryz.agg3 (by rw [hcell_of c.rd]; rfl)
theorem Cx.ld4 {k : Value → Prop} (c : Cx S n h r bv l p ext op gr) : pLoad Tryz.prog 3 (.pointer (some ⟨r, 4, none⟩)) h k = k (.int .i64 gr) := pLoad_one Tryz.agg3 (by rw [hcell_of c.rd]; rfl)

theorem lang_spec (c : Cx S n h r bv l p ext op gr) (hk : R (.int .i64 (if ext then 4 else 3)) h) : CallsH Tryz.prog 28 #[ptr r] h R E := by
  refine C28 ?_
  unfold S28
  simp only [boolV_bool, bcase_true, bcase_false, need, reads_nil, Tryz.fa57_2, addr_add, pLoad, Tryz.agg4, hcell_of c.rd, hcell_mk, List.getElem?_toArray, List.getElem?_cons_zero, List.getElem?_cons_succ, Option.some.injEq, exists_eq_left', Nat.reduceAdd, Nat.zero_add, Option.isSome_none, Bool.false_eq_true, if_false]
  cases ext <;> simpa using hk
theorem done_spec (c : Cx S n h r bv l p ext op gr) (hk : R (.bool (decide (l.length ≤ p))) h) : CallsH Tryz.prog 57 #[ptr r] h R E := by
  refine C57 ?_
  unfold S57
  simp only [boolV_bool, bcase_true, bcase_false, need, reads_nil, Tryz.fa57_1, addr_add, pLoad, Tryz.agg3, Tryz.fa57_0, Tryz.agg29, reads_ge, hcell_of c.rd, reads_blen c.by_ Tryz.underlying29, hcell_mk, List.getElem?_toArray, List.getElem?_cons_zero, List.getElem?_cons_succ, Option.some.injEq, exists_eq_left', Nat.reduceAdd, Nat.zero_add, Option.isSome_none, Bool.false_eq_true, if_false]
  simpa using hk

def isM (l : List UInt8) (s : List UInt8) (p : Nat) : Bool := s.isPrefixOf (l.drop p)
theorem isM_le {l s : List UInt8} {p : Nat} (hp : p ≤ l.length) (h : isM l s p = true) : p + s.length ≤ l.length :=
  Nat.not_lt.1 fun hl => by rw [isM, pre_long (by omega) hp] at h; cases h
theorem is_spec {s : List UInt8} (c : Cx S n h r bv l p ext op gr) (hs : s.length ≤ 4294967296) (hk : R (.bool (isM l s p)) h) : CallsH Tryz.prog 81 #[ptr r, str s] h R E := by
  refine C81 ?_
  unfold S81
  have hp := c.le
  have hl := c.len
  simp only [boolV_bool, bcase_true, bcase_false, need, reads_nil, Tryz.fa57_1, addr_add, pLoad, Tryz.agg3, reads_add, Tryz.fa57_0, Tryz.agg29, reads_le, reads_seq, reads_pick, hcell_of c.rd, reads_blen c.by_ Tryz.underlying29, reads_slen Tryz.underlying9, hcell_mk, List.getElem?_toArray, List.getElem?_cons_zero, List.getElem?_cons_succ, Option.some.injEq, exists_eq_left', Nat.reduceAdd, Nat.zero_add, Option.isSome_none, Bool.false_eq_true, if_false]
  rw [wrap_nn _ _ (by omega), dec_nn_le]
  refine bcase_of (fun hc => ?_) (fun hc => ?_)
  · have hc := of_decide_eq_true hc
    refine reads_bslice c.by_ Tryz.underlying29 Tryz.size5 (by omega) hc fun u hu => ?_
    rw [reads_bstring hu Tryz.underlying29 Tryz.underlying5 Tryz.underlying9, reads_seq]
    rw [← pre_drop hc]
    exact hk
  · rw [isM, pre_long (of_decide_eq_false hc) hp] at hk
    exact hk

/-- the place is set -/
theorem Cx.at_ {h' : Heap} {p' : Nat} (c : Cx S n h r bv l p ext op gr) (u : Upd h h' r (.cells #[bv, .int .i64 p', .bool ext, .int .i64 op, .int .i64 gr] 57 (0, 0))) (hp : p' ≤ l.length) :
    Fm h.size r h h' ∧ Cx S n h' r bv l p' ext op gr :=
  ⟨Fm.upd u (.inr rfl), c.on (Fm.upd u (.inr rfl)) u.same hp c.opg c.g9⟩
theorem take_spec {s : List UInt8} (c : Cx S n h r bv l p ext op gr) (hs : s.length ≤ 4294967296)
    (hy : isM l s p = true → ∀ h', Fm h.size r h h' → Cx S n h' r bv l (p + s.length) ext op gr → R (.bool true) h') (hn : isM l s p = false → R (.bool false) h) : CallsH Tryz.prog 79 #[ptr r, str s] h R E := by
  refine C79 ?_
  unfold S79
  refine is_spec c hs ?_
  have hp := c.le
  have hl := c.len
  simp only [boolV_bool, bcase_true, bcase_false, need, reads_nil, Tryz.fa57_1, addr_add, pLoad, Tryz.agg3, reads_add, Tryz.size3, hcell_of c.rd, reads_slen Tryz.underlying9, hcell_mk, List.getElem?_toArray, List.getElem?_cons_zero, List.getElem?_cons_succ, Option.some.injEq, exists_eq_left', Nat.reduceAdd, Nat.zero_add, Option.isSome_none, Bool.false_eq_true, if_false]
  refine bcase_of (fun hc => ?_) (fun hc => ?_)
  · have hpl := isM_le hp hc
    rw [wrap_nn _ _ (by omega)]
    refine store1 c.rd Tryz.size3 rfl (by simp) fun h' hu => ?_
    rw [hc]
    obtain ⟨f, c'⟩ := c.at_ hu hpl
    exact hy hc h' f c'
  · rw [hc]; exact hn hc

def timesM (l : List UInt8) (p : Nat) : Bool := isM l [42] p || isM l [43] p || isM l [63] p || isM l [123] p
theorem times_spec (c : Cx S n h r bv l p ext op gr) (hk : R (.bool (timesM l p)) h) : CallsH Tryz.prog 117 #[ptr r] h R E := by
  refine C117 ?_
  unfold S117
  unfold timesM at hk
  refine is_spec c (by simp) ?_
  refine bcase_of (fun hc => ?_) (fun hc => ?_)
  · simpa [hc] using hk
  refine is_spec c (by simp) ?_
  refine bcase_of (fun hc2 => ?_) (fun hc2 => ?_)
  · simpa [hc, hc2] using hk
  refine is_spec c (by simp) ?_
  refine bcase_of (fun hc3 => ?_) (fun hc3 => ?_)
  · simpa [hc, hc2, hc3] using hk
  refine is_spec c (by simp) ?_
  simpa [hc, hc2, hc3] using hk

/-! ### Giving up -/
def codeAt (code : Nat) : Nat := if code ≤ 10 then code - 1 else code
def IsErr (S : Glb) (h : Heap) (n : Nat) (lang code pos : Nat) (v : Value) : Prop :=
  ∃ a b, n ≤ a ∧ n ≤ b ∧ v = .iface 81 (ptr a) ∧ h[a]? = some (.cells #[.iface 77 (ptr b), .int .i64 lang] 84 (0, 0)) ∧ h[b]? = some (.cells #[S.v (codeAt code), .int .i64 pos] 80 (0, 0))
def Fails (S : Glb) (h : Heap) (n : Nat) (ext : Bool) (code pos : Nat) (c : List PanicEntry) : Prop :=
  ∃ v, IsErr S h n (if ext then 4 else 3) code pos v ∧ c = [{ v := .iface 62 (.agg #[v]), recovered := false }]

theorem of27_spec {code : Nat} (g : Gl S h) (h1 : 1 ≤ code) (h2 : code ≤ 10) (hk : R (S.v (codeAt code)) h) : CallsH Tryz.prog 27 #[.int .i64 code] h R E := by
  refine C27 ?_
  unfold S27
  have hg : ∀ i, i < 22 → i ≠ 10 → hcell h ⟨i, 0, none⟩ = some (S.v i) := fun i a b => (g.s i a b).1
  rcases (by omega : code = 1 ∨ code = 2 ∨ code = 3 ∨ code = 4 ∨ code = 5 ∨ code = 6 ∨ code = 7 ∨ code = 8 ∨ code = 9 ∨ code = 10) with rfl | rfl | rfl | rfl | rfl | rfl | rfl | rfl | rfl | rfl <;>
  · simp only [boolV_bool, bcase_true, bcase_false, need, reads_eq, pLoad, Tryz.agg26, reads_eq]
    simp [hg, bcase]
    exact hk

theorem fail_spec {code pos : Nat} (c : Cx S n h r bv l p ext op gr) (h1 : 1 ≤ code) (h2 : code ≤ 10) (he : ∀ c h', Fails S h' h.size ext code pos c → Fm h.size r h h' → E c h') :
    CallsH Tryz.prog 58 #[ptr r, .int .i64 code, .int .i64 pos] h R E := by
  refine C58 ?_
  unfold S58
  refine of27_spec c.gl h1 h2 ?_
  obtain ⟨x, hS, _⟩ := (c.gl.s (codeAt code) (by unfold codeAt; split <;> omega) (by unfold codeAt; split <;> omega)).2
  refine C26 ?_
  unfold S26
  rw [hS]
  simp only [boolV_bool, bcase_true, bcase_false, need, Tryz.eql26_s, Tryz.eql26_n, Tryz.bd80_0_1]
  refine new_rule fun h1 a1 => ?_
  have c1 := c.al a1
  simp only [reads_mkiface Tryz.underlying77 (by simp)]
  refine lang_spec c1 ?_
  refine C25 ?_
  unfold S25
  have e : (Value.int IntKind.i64 (if ext = true then 4 else 3)) = .int .i64 ((if ext = true then 4 else 3 : Nat) : Int) := by cases ext <;> rfl
  rw [e]
  simp only [boolV_bool, bcase_true, bcase_false, need, Tryz.eql26_s, Tryz.eql26_n, Tryz.bd84_0_1]
  refine new_rule fun h2 a2 => ?_
  simp only [reads_mkiface Tryz.underlying81 (by simp), boolV_bool, bcase_true, bcase_false, need, Tryz.bd62_0, reads_mkiface Tryz.underlying62 (by simp)]
  refine runs_panic rfl (he _ _ ⟨_, ⟨h1.size, h.size, by rw [a1.size]; omega, Nat.le_refl _, rfl, a2.at_, ?_⟩, rfl⟩ ((Fm.al a1 (Nat.le_refl _)).trans (Fm.al a2 (by rw [a1.size]; omega))))
  rw [a2.old _ (by rw [a1.size]; omega), hS]
  exact a1.at_
end Rt
end Go.Proofs
