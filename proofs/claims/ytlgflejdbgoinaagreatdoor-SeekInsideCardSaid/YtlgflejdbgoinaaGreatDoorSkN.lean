/- A part of the proofs over this seat: SkN. -/
import Derived.Test.YtlgflejdbgoinaaGreatDoorSkT
import Derived.Test.YtlgflejdbgoinaaGreatDoorBld
import Derived.Test.YtlgflejdbgoinaaGreatDoorShf
set_option linter.unusedVariables false
set_option linter.unusedSimpArgs false
set_option maxRecDepth 100000
namespace Go.Proofs
open Go.Vcg
namespace Rt
attribute [local congr] Reads.congr ReadsS.congr pLoad.congr pLoadS.congr pStore.congr Runs.congr CallsH.congr bcase.congr boolV.congr Stable.congr pAlloc.congr

/-! ### The reader -/
structure Cx (S : Glb) (n : Nat) (h : Heap) (r : Nat) (ov : Value) (l : List Op) (p op : Nat) (ac : Bool) : Prop where
  rd : h[r]? = some (.cells #[ov, .int .i64 p, .int .i64 op, .bool ac] 63 (0, 0))
  by_ : IsOps h ov l
  ne : ∀ b o m c, ov = .slice (some ⟨b, o, none⟩) m c → b ≠ r ∧ b < n
  le : p ≤ l.length
  len : l.length ≤ 64
  sh : ∀ s ∈ l, s.length ≤ 1024
  gl : Gl S h
  r22 : S.N ≤ r
  n22 : S.N ≤ n
  nle : n ≤ h.size
  opg : op ≤ p
variable {S : Glb} {n : Nat} {h : Heap} {r : Nat} {ov : Value} {l : List Op} {p op : Nat} {ac : Bool} {R : Value → Heap → Prop} {E : List PanicEntry → Heap → Prop}
/-- the reader has gone on -/
theorem Cx.on {h' : Heap} {p' op' : Nat} {ac' : Bool} (c : Cx S n h r ov l p op ac) (f : Fm n r h h') (hr : h'[r]? = some (.cells #[ov, .int .i64 p', .int .i64 op', .bool ac'] 63 (0, 0))) (hp : p' ≤ l.length) (ho : op' ≤ p') : Cx S n h' r ov l p' op' ac' :=
  ⟨hr, c.by_.frame f.size fun b o k hv _ => f.same b (c.ne b o _ k hv).2 (c.ne b o _ k hv).1, c.ne, hp, c.len, c.sh, c.gl.fm f c.n22 c.r22, c.r22, c.n22, Nat.le_trans c.nle f.size, ho⟩
/-- the reader has not been touched -/
theorem Cx.still {h' : Heap} (c : Cx S n h r ov l p op ac) (f : Fm n r h h') (hr : h'[r]? = h[r]?) : Cx S n h' r ov l p op ac :=
  c.on f (hr.trans c.rd) c.le c.opg
theorem Cx.more {m : Nat} (c : Cx S n h r ov l p op ac) (h1 : n ≤ m) (h2 : m ≤ h.size) : Cx S m h r ov l p op ac :=
  ⟨c.rd, c.by_, fun b o k d hv => ⟨(c.ne b o k d hv).1, Nat.lt_of_lt_of_le (c.ne b o k d hv).2 h1⟩, c.le, c.len, c.sh, c.gl, c.r22, Nat.le_trans c.n22 h1, h2, c.opg⟩
theorem Cx.rlt (c : Cx S n h r ov l p op ac) : r < h.size := at_lt c.rd
theorem Cx.al {h' : Heap} {o : Obj} (c : Cx S n h r ov l p op ac) (a : Al h h' o) : Cx S n h' r ov l p op ac :=
  c.still (Fm.al a c.nle) (a.old _ c.rlt)
theorem Cx.upd {h' : Heap} {o : Obj} {b : Nat} (c : Cx S n h r ov l p op ac) (u : Upd h h' b o) (hb : n ≤ b) (hr : b ≠ r) : Cx S n h' r ov l p op ac :=
  c.still (Fm.upd u (.inl hb)) (u.other _ (Ne.symm hr))
theorem Cx.ld {i : Nat} {T : TypeId} {v : Value} {k : Value → Prop} (c : Cx S n h r ov l p op ac) (hT : aggN Tryz.prog T = some none) (hv : (#[ov, .int .i64 p, .int .i64 op, .bool ac] : Array Value)[i]? = some v) : pLoad Tryz.prog T (.pointer (some ⟨r, i, none⟩)) h k = k v :=
  pLoad_one hT ((hcell_of c.rd).trans hv)
theorem Cx.ld0 {k : Value → Prop} (c : Cx S n h r ov l p op ac) : pLoad Tryz.prog 22 (.pointer (some ⟨r, 0, none⟩)) h k = k ov := c.ld Tryz.agg22 rfl
theorem Cx.ld1 {k : Value → Prop} (c : Cx S n h r ov l p op ac) : pLoad Tryz.prog 3 (.pointer (some ⟨r, 1, none⟩)) h k = k (.int .i64 p) := c.ld Tryz.agg3 rfl
theorem Cx.ld2 {k : Value → Prop} (c : Cx S n h r ov l p op ac) : pLoad Tryz.prog 3 (.pointer (some ⟨r, 2, none⟩)) h k = k (.int .i64 op) := c.ld Tryz.agg3 rfl
/-- the reader's place, set -/
theorem Cx.at_ {h' : Heap} {p' : Nat} (c : Cx S n h r ov l p op ac) (hu : Upd h h' r (.cells #[ov, .int .i64 p', .int .i64 op, .bool ac] 63 (0, 0))) (hp : p' ≤ l.length) (ho : op ≤ p') : Fm n r h h' ∧ Cx S n h' r ov l p' op ac :=
  ⟨Fm.upd hu (.inr rfl), c.on (Fm.upd hu (.inr rfl)) hu.same hp ho⟩

/-! ### Errors -/
def Fails (S : Glb) (h : Heap) (n : Nat) (code pos : Nat) (c : List PanicEntry) : Prop :=
  ∃ v, IsErr S h n 9 code pos v ∧ c = [{ v := .iface 58 (.agg #[v]), recovered := false }]
theorem Fails.more {m k code pos : Nat} {c : List PanicEntry} (f : Fails S h m code pos c) (hk : k ≤ m) : Fails S h k code pos c := by
  obtain ⟨v, ⟨a, b, h1, h2, h3⟩, h4⟩ := f
  exact ⟨v, ⟨a, b, by omega, by omega, h3⟩, h4⟩
/-- an error in a language, made -/
theorem fault_spec {code pos lang : Nat} {K : Value → Heap → Prop} (gl : Gl S h) (hc1 : 1 ≤ code) (hc2 : code ≤ 21) (hk : ∀ v h', IsErr S h' h.size lang code pos v → Fm h.size h.size h h' → K v h') :
    CallsH Tryz.prog 38 #[.int .i64 code] h (fun t6 h1 => CallsH Tryz.prog 37 #[t6, .int .i64 pos] h1 (fun t8 h2 => CallsH Tryz.prog 36 #[t8, .int .i64 lang] h2 K E) E) E := by
  refine of_all gl hc1 hc2 ?_
  obtain ⟨x, hS, _⟩ := (gl.s (codeAt code) (codeAt_lt hc1 hc2).1 (codeAt_lt hc1 hc2).2).2
  rw [hS]
  refine at_spec fun h1 a1 => in_spec fun h2 a2 => ?_
  have s1 := a1.size
  refine hk _ h2 ⟨h1.size, h.size, by omega, Nat.le_refl _, rfl, a2.at_, ?_⟩ ((Fm.al a1 (Nat.le_refl _)).trans (Fm.al a2 (by omega)))
  rw [a2.old _ (by omega), hS]
  exact a1.at_
theorem fail_spec {code pos : Nat} (gl : Gl S h) (hc1 : 1 ≤ code) (hc2 : code ≤ 21) (hk : ∀ v h', IsErr S h' h.size 9 code pos v → Fm h.size h.size h h' → R v h') : CallsH Tryz.prog 20 #[.int .i64 code, .int .i64 pos] h R E := by
  refine C20 ?_
  unfold S20
  exact fault_spec (lang := 9) gl hc1 hc2 hk
theorem bar_spec {code pos : Nat} {t : Value} (gl : Gl S h) (hc1 : 1 ≤ code) (hc2 : code ≤ 21) (he : ∀ c h', Fails S h' h.size code pos c → Fm h.size h.size h h' → E c h') : CallsH Tryz.prog 24 #[t, .int .i64 code, .int .i64 pos] h R E := by
  refine C24 ?_
  unfold S24
  refine fail_spec gl hc1 hc2 fun v h1 hv f1 => ?_
  have hv' := hv
  obtain ⟨a, b, _, _, rfl, _⟩ := hv'
  rw [Tryz.bd58_0, reads_mkiface Tryz.underlying58 (by simp)]
  exact runs_panic rfl (he _ _ ⟨_, hv, rfl⟩ f1)

/-! ### What stands next -/
def isO (l : List Op) (s : Op) (p : Nat) : Bool := decide (l[p]? = some s)
theorem isO_lt {s : Op} (hi : isO l s p = true) : p < l.length := by
  have := of_decide_eq_true hi
  exact (List.getElem?_eq_some_iff.1 this).1
theorem is_spec {s : Op} (c : Cx S n h r ov l p op ac) (hk : R (.bool (isO l s p)) h) : CallsH Tryz.prog 59 #[ptr r, str s] h R E := by
  refine C59 ?_
  unfold S59
  have hl := c.len
  simp only [boolV_bool, bcase_true, bcase_false, need, reads_nil, Tryz.fa63_1, addr_add, Tryz.agg3, Tryz.fa63_0, Tryz.agg22, reads_lt, Tryz.agg9, reads_seq, reads_pick, c.ld0, c.ld1, Nat.zero_add, reads_olen c.by_, dec_nn_lt]
  refine bcase_of (fun hc => ?_) (fun hc => ?_)
  · have hlt := of_decide_eq_true hc
    refine ops_load c.by_ hlt ?_
    rw [reads_seq]
    have : isO l s p = decide (l[p] = s) := by unfold isO; simp [List.getElem?_eq_getElem hlt]
    rw [← this]
    exact hk
  · have hlt := of_decide_eq_false hc
    have : isO l s p = false := by
      cases he : isO l s p with
      | false => rfl
      | true => exact absurd (isO_lt he) hlt
    rwa [this] at hk
theorem take_spec {s : Op} (c : Cx S n h r ov l p op ac) (hy : isO l s p = true → ∀ h', Fm h.size r h h' → Cx S n h' r ov l (p + 1) op ac → R (.bool true) h') (hn : isO l s p = false → R (.bool false) h) : CallsH Tryz.prog 44 #[ptr r, str s] h R E := by
  refine C44 ?_
  unfold S44
  have hl := c.len
  have hle := c.le
  have hop := c.opg
  refine is_spec c ?_
  cases hi : isO l s p with
  | false => simp only [boolV_bool, bcase_false]; exact hn hi
  | true =>
    have hlt := isO_lt hi
    simp only [boolV_bool, bcase_true, bcase_false, need, reads_nil, Tryz.fa63_1, addr_add, Tryz.agg3, reads_add, Tryz.size3, c.ld1, Nat.zero_add, boolV_bool, bcase_true, wrap_n1 p (by omega)]
    refine store1 c.rd Tryz.size3 rfl (by simp) fun h2 hu => ?_
    obtain ⟨f2, c2⟩ := c.at_ (p' := p + 1) hu (by omega) (by omega)
    exact hy hi h2 (Fm.upd hu (.inr rfl)) c2
/-- the next operand, or the end -/
theorem next_spec (c : Cx S n h r ov l p op ac) (hy : ∀ (hp : p < l.length), ∀ h', Fm h.size r h h' → Cx S n h' r ov l (p + 1) op ac → R (str l[p]) h')
    (hn : p = l.length → ∀ c h', Fails S h' h.size 3 l.length c → Fm h.size h.size h h' → E c h') : CallsH Tryz.prog 68 #[ptr r] h R E := by
  refine C68 ?_
  unfold S68
  have hl := c.len
  have hle := c.le
  have hop := c.opg
  refine Join0.intro (fun h' => h' = h ∧ p < l.length) ?_ ?_
  · simp only [boolV_bool, bcase_true, bcase_false, need, reads_nil, Tryz.fa63_1, addr_add, Tryz.agg3, Tryz.fa63_0, Tryz.agg22, reads_ge, reads_add, Tryz.size3, reads_sub, Tryz.agg9, c.ld0, c.ld1, Nat.zero_add, reads_olen c.by_, dec_nn_le]
    refine bcase_of (fun hc => ?_) (fun hc => ⟨trivial, by have := of_decide_eq_false hc; omega⟩)
    have := of_decide_eq_true hc
    exact bar_spec (code := 3) c.gl (by omega) (by omega) (hn (by omega))
  · rintro h2 ⟨rfl, hlt⟩
    simp only [boolV_bool, bcase_true, bcase_false, need, reads_nil, Tryz.fa63_1, addr_add, Tryz.agg3, Tryz.fa63_0, Tryz.agg22, reads_ge, reads_add, Tryz.size3, reads_sub, Tryz.agg9, c.ld1, Nat.zero_add, wrap_n1 p (by omega)]
    refine store1 c.rd Tryz.size3 rfl (by simp) fun h3 hu => ?_
    obtain ⟨f3, c3⟩ := c.at_ (p' := p + 1) hu (by omega) (by omega)
    simp only [boolV_bool, bcase_true, bcase_false, need, reads_nil, Tryz.fa63_1, addr_add, Tryz.agg3, Tryz.fa63_0, Tryz.agg22, reads_ge, reads_add, Tryz.size3, reads_sub, Tryz.agg9, c3.ld0, c3.ld1, Nat.zero_add, wrap_s1 (p + 1) (by omega) (by omega), Nat.add_sub_cancel]
    exact ops_load c3.by_ hlt (hy hlt h3 (Fm.upd hu (.inr rfl)) c3)
/-- two trees as one -/
theorem two_spec {kind : Nat} {t u : U} {vs ws : List Value} {Q : Nat → Prop} (ht : IsSk h Q t vs) (hu : IsSk h Q u ws)
    (hk : ∀ h' v, Fm h.size h.size h h' → IsSk h' (fun b => Q b ∨ h.size ≤ b) (.node kind [] 0 0 false [] [t, u]) v → R (.agg v.toArray) h') : CallsH Tryz.prog 25 #[.int .i64 kind, .agg vs.toArray, .agg ws.toArray] h R E := by
  refine C25 ?_
  unfold S25
  refine new_rule fun h1 a1 => new_rule fun h2 a2 => alloc_rule Tryz.zero40 fun h3 a3 => ?_
  have s1 := a1.size
  have s2 := a2.size
  have s3 := a3.size
  have b1 := (a3.old h.size (by omega)).trans ((a2.old h.size (by omega)).trans a1.at_)
  have b2 := (a3.old h1.size (by omega)).trans a2.at_
  refine load_all b1 (by rw [Tryz.agg40]; simp [Value.cells, ht.len]) ?_
  refine load_all b2 (by rw [Tryz.agg40]; simp [Value.cells, hu.len]) ?_
  refine slice2_rule Tryz.info40 Tryz.underlying38 (by simp [Value.cells, ht.len, hu.len]) (by omega) (by omega) rfl fun h4 a4 => ?_
  have s4 := a4.size
  simp only [Tryz.bd40_0_6]
  refine ret_full ((a4.old h2.size (by omega)).trans a3.at_) (xs := (skL kind [] 0 0 false (.slice none 0 0) (.slice (some ⟨h3.size, 0, none⟩) 2 2)).toArray) Tryz.size40 Tryz.agg40 rfl (flat_skL rfl rfl) fun h5 hu5 => ?_
  have hold : ∀ b, b < h.size → h5[b]? = h[b]? := fun b hb => by rw [hu5.other b (by omega), a4.old b (by omega), a3.old b (by omega), a2.old b (by omega), a1.old b hb]
  refine hk h5 _ ⟨by rw [hu5.size]; omega, fun b hb _ => hold b hb⟩ ?_
  refine IsSk.kid2 (vs := vs) (ws := ws) ((hu5.other h3.size (by omega)).trans ?_) (.inr (by omega)) (ht.frame fun b hb hlt => ⟨.inl hb, hold b hlt⟩) (hu.frame fun b hb hlt => ⟨.inl hb, hold b hlt⟩)
  rw [a4.at_]
  simp [Value.cells]
end Rt
end Go.Proofs

set_option maxRecDepth 100000
namespace Go.Proofs
open Go.Vcg
namespace Rt
attribute [local congr] Reads.congr ReadsS.congr pLoad.congr pLoadS.congr pStore.congr Runs.congr CallsH.congr bcase.congr boolV.congr Stable.congr pAlloc.congr
variable {S : Glb} {n : Nat} {h : Heap} {r : Nat} {bv : Value} {l : List UInt8} {p : Nat} {R : Value → Heap → Prop} {E : List PanicEntry → Heap → Prop}

/-! ### A pattern, read: what matters here is whether there is one -/
theorem idx_loadS {i : Nat} {St : Heap → Prop} {k : Value → Prop} (h0 : St h) (hb : ∀ h, St h → IsBytes h bv l) (hi : i < l.length) (hk : k (.int .u8 l[i].toNat)) :
    ReadsS Tryz.prog (Instr.indexAt 115 bv (.int .i64 i)) St fun t => pLoadS Tryz.prog 5 t St k := by
  rcases hb h h0 with ⟨rfl, rfl⟩ | ⟨b, o, c, rfl, _, _⟩
  · exact absurd hi (by simp)
  · refine readsS_lift (v := .pointer (some ⟨b, o + i, none⟩)) (fun h k => by rw [reads_idxRow Tryz.underlying115 Tryz.size5 hi, addr_add, Nat.mul_one]) ?_
    refine pLoadS_one Tryz.agg5 (fun h hs => ?_) hk
    rcases hb h hs with ⟨e, _⟩ | ⟨b', o', c', e, _, hat⟩
    · cases e
    · cases e
      exact hat i hi
theorem one_spec {c : UInt8} (hk : ∀ h', Fm h.size h.size h h' → R (.agg (#[.int .i64 1] ++ (setOf [c]).vals.toArray)) h') : CallsH Tryz.prog 81 #[.int .u8 c.toNat] h R E := by
  refine C81 ?_
  unfold S81
  refine alloc_rule Tryz.zero148 fun h1 a1 => ?_
  refine slice1_rule Tryz.info5 Tryz.underlying115 rfl (by omega) (by omega) fun h2 a2 => ?_
  have s1 := a1.size
  have s2 := a2.size
  rw [reads_bstring (BytesAt.one (c := c) a2.at_) Tryz.underlying115 Tryz.underlying5 Tryz.underlying9]
  refine of_spec (by simp) fun h3 f3 => ?_
  have s3 := f3.size
  rw [show Value.agg (setOf [c]).vals.toArray = .agg #[.int .u64 (setOf [c]).a, .int .u64 (setOf [c]).b, .int .u64 (setOf [c]).c, .int .u64 (setOf [c]).d] from rfl, Tryz.bd148_0_1]
  have b3 := (f3.same h.size (by omega) (by omega)).trans ((a2.old h.size (by omega)).trans a1.at_)
  refine ret_full b3 (xs := #[.int .i64 1, .int .u64 (setOf [c]).a, .int .u64 (setOf [c]).b, .int .u64 (setOf [c]).c, .int .u64 (setOf [c]).d]) Tryz.size148 Tryz.agg148 rfl ?_ fun h4 hu => ?_
  · intro v hv
    simp only [List.mem_cons, List.not_mem_nil, or_false] at hv
    rcases hv with rfl | rfl | rfl | rfl | rfl <;> rfl
  · have f3' : Fm h.size h.size h2 h3 := ⟨f3.size, fun k hk _ => f3.same k (by omega) (by omega)⟩
    exact hk h4 ((((Fm.al a1 (Nat.le_refl _)).trans (Fm.al a2 (by omega))).trans f3').trans (Fm.upd hu (.inl (Nat.le_refl _))))

/-- the pattern under way: the cell holds v, the row so far is v' -/
structure GQ (h0 h : Heap) (v v' : Value) (k : Nat) : Prop where
  own : ∃ xs, Owns h (h0.size + 1) 148 5 v' k xs
  cell : h[h0.size]? = some (.cells #[v] 144 (0, 0))
  fm : Fm h0.size h0.size h0 h
theorem Owns.al {h' : Heap} {o : Obj} {base k size : Nat} {e : TypeId} {v : Value} {xs : List Value} (a : Al h h' o) (own : Owns h base e size v k xs) : Owns h' base e size v k xs := by
  obtain ⟨h1, h2⟩ := own
  refine ⟨h1, h2.imp id ?_⟩
  rintro ⟨g, cap, cur, e1, e2, e3, e4⟩
  exact ⟨g, cap, cur, e1, e2, (a.old g (at_lt e3)).trans e3, e4⟩
theorem Owns.fm {h' : Heap} {base k size : Nat} {e : TypeId} {v : Value} {xs : List Value} (f : ∀ b, base ≤ b → b < h.size → h'[b]? = h[b]?) (own : Owns h base e size v k xs) : Owns h' base e size v k xs := by
  obtain ⟨h1, h2⟩ := own
  refine ⟨h1, h2.imp id ?_⟩
  rintro ⟨g, cap, cur, e1, e2, e3, e4⟩
  exact ⟨g, cap, cur, e1, e2, (f g e2 (at_lt e3)).trans e3, e4⟩
theorem GQ.lt {h0 : Heap} {v v' : Value} {k : Nat} (g : GQ h0 h v v' k) : h0.size < h.size := at_lt g.cell
theorem GQ.al {h0 h' : Heap} {o : Obj} {v v' : Value} {k : Nat} (g : GQ h0 h v v' k) (a : Al h h' o) : GQ h0 h' v v' k :=
  ⟨g.own.imp fun _ x => Owns.al a x, (a.old _ g.lt).trans g.cell, g.fm.trans (Fm.al a (by have := g.lt; omega))⟩
theorem GQ.fr {h0 h' : Heap} {v v' : Value} {k : Nat} (g : GQ h0 h v v' k) (f : Fm h.size h.size h h') : GQ h0 h' v v' k :=
  ⟨g.own.imp fun _ x => Owns.fm (fun b _ hb => f.same b hb (by omega)) x, (f.same _ g.lt (by have := g.lt; omega)).trans g.cell, g.fm.trans ⟨f.size, fun b hb _ => f.same b (by have := g.lt; omega) (by have := g.lt; omega)⟩⟩
theorem push_piece {h0 h1 : Heap} {x v v' : Value} {k : Nat} {K : Value → Heap → Prop} (g : GQ h0 h v v' k) (hx : x.cells.size = 5) (hf : ∀ u ∈ x.cells.toList, u.oneCell' = true) (hk : k ≤ 1000) (a1 : Al h h1 (.cells x.cells 148 (0, 0)))
    (hK : ∀ w h', GQ h0 h' v w (k + 1) → (∀ b, b < h1.size → v'.ownBlock ≠ some b → h'[b]? = h1[b]?) → K w h') : Runs Tryz.prog (builtin .append #[142, 142] 142 #[false, false] #[v', .slice (some ⟨h.size, 0, none⟩) 1 1]) h1 K E := by
  have g1 := g.al a1
  obtain ⟨xs, ho⟩ := g1.own
  have h0l := g.lt
  have s1 := a1.size
  refine runs_append' (size := 5) (bytes := 40) (news := x.cells.toList) (m := 1) Tryz.info148 Tryz.underlying142 rfl (by omega) ho (by simp [hx]) ?_ hf (by simp [maxLen]; omega) (by omega) (by omega) fun w h2 ho' hg hnil hat => ?_
  · intro j u hj
    rw [addr_add, Nat.zero_add, hcell_of a1.at_]
    simpa using hj
  · refine hK w h2 ⟨⟨_, ho'⟩, (hg.block _ (by omega) fun e => ?_).trans g1.cell, g1.fm.trans (Fm.grown hg (by omega) fun b hb => .inl ?_)⟩ fun b hb hne => hg.block b hb (Ne.symm hne)
    · obtain ⟨_, h2⟩ := ho
      rcases h2 with ⟨rfl, _⟩ | ⟨gg, cap, cur, rfl, e2, _⟩
      · cases e
      · have : h0.size = gg := by simpa [Value.ownBlock] using e
        omega
    · obtain ⟨_, h2⟩ := ho
      rcases h2 with ⟨rfl, _⟩ | ⟨gg, cap, cur, rfl, e2, _⟩
      · cases hb
      · have : gg = b := by simpa [Value.ownBlock] using hb
        omega
theorem GQ.flat {h0 : Heap} {v v' : Value} {k : Nat} (g : GQ h0 h v v' k) : flat v' = true := by
  obtain ⟨xs, _, h2⟩ := g.own
  rcases h2 with ⟨rfl, _⟩ | ⟨_, _, _, rfl, _⟩ <;> rfl
theorem GQ.st {h0 : Heap} {v v' : Value} {k : Nat} {K : Heap → Prop} (g : GQ h0 h v v' k) (hK : ∀ h', GQ h0 h' v' v' k → Upd h h' h0.size (.cells #[v'] 144 (0, 0)) → K h') : pStore Tryz.prog 142 (.pointer (some ⟨h0.size, 0, none⟩)) v' h K := by
  refine store1 g.cell Tryz.size142 g.flat (by simp) fun h' hu => ?_
  exact hK h' ⟨g.own.imp fun _ x => Owns.fm (fun b hb _ => hu.other b (by omega)) x, hu.same, g.fm.trans (Fm.upd hu (.inl (Nat.le_refl _)))⟩ hu
theorem glob_spec (gl : Gl S h) (hn : S.N ≤ h.size) (hb : IsBytes h bv l) (hbl : ∀ b o m c, bv = .slice (some ⟨b, o, none⟩) m c → b < h.size) (hlen : l.length ≤ 100000)
    (hy : l.length ≤ 256 → ∀ h' p, Fm h.size h.size h h' → R (.tuple #[ptr p, .nilIface]) h') (hbad : 256 < l.length → ∀ h' v, IsErr S h' h.size 2 2 0 v → Fm h.size h.size h h' → R (.tuple #[.pointer none, v]) h') :
    CallsH Tryz.prog 70 #[bv] h R E := by
  refine C70 ?_
  unfold S70
  rw [reads_blen hb Tryz.underlying115, reads_gt, boolV_bool]
  refine bcase_of (fun hc => ?_) (fun hc => ?_)
  · have := of_decide_eq_true hc
    exact fault_spec (pos := 0) (lang := 2) (code := 2) gl (by omega) (by omega) fun v h' hv f => hbad (by omega) h' v hv f
  have hle : l.length ≤ 256 := by have := of_decide_eq_false hc; omega
  rw [Tryz.bd144]
  refine new_rule fun h1 a1 => ?_
  have s1 := a1.size
  have keep : ∀ {h' : Heap}, Fm h.size h.size h h' → IsBytes h' bv l := fun f => hb.frame fun b o k hv => f.same b (hbl b o _ k hv) (by have := hbl b o _ k hv; omega)
  refine Loop1.fuel (fun k a h' => ∃ (i : Nat) (v : Value) (c : Nat), a = .int .i64 i ∧ i ≤ l.length ∧ k = l.length - i ∧ c ≤ i ∧ GQ h h' v v c) (n := l.length)
    ⟨0, .slice none 0 0, 0, rfl, by omega, by omega, by omega, ⟨[], Owns.nil ..⟩, a1.at_, Fm.al a1 (Nat.le_refl _)⟩ fun k a h2 hi => ?_
  obtain ⟨i, v, c, rfl, hil, rfl, hci, g⟩ := hi
  have hb2 := keep g.fm
  rw [reads_blen hb2 Tryz.underlying115, reads_lt, dec_nn_lt, boolV_bool]
  refine bcase_of (fun hc => ?_) (fun hc => ?_)
  · have hlt := of_decide_eq_true hc
    refine Join1.intro (fun a h' => ∃ (j : Nat), a = .int .i64 j ∧ i ≤ j ∧ j < l.length ∧ GQ h h' v v c) ?_ ?_
    · refine idx_load hb2 Tryz.underlying115 Tryz.size5 Tryz.agg5 hlt ?_
      simp only [reads_eq]
      have cv : ∀ {k : Value → Prop}, pLoad Tryz.prog 142 (.pointer (some ⟨h.size, 0, none⟩)) h2 k = k v := fun {k} => pLoad_one Tryz.agg142 (by rw [hcell_of g.cell]; rfl)
      have fin : ∀ {x : Value}, x.cells.size = 5 → (∀ u ∈ x.cells.toList, u.oneCell' = true) → Runs Tryz.prog (vS (Instr.buildSlice 142 1 #[(0, x)])) h2 (fun t35 h6 =>
        Runs Tryz.prog (builtin .append #[142, 142] 142 #[false, false] #[v, t35]) h6 (fun t36 h7 =>
        pStore Tryz.prog 142 (.pointer (some ⟨h.size, 0, none⟩)) t36 h7 fun h8 =>
        Reads Tryz.prog (binS .add 3 true (.int .i64 i) (.int .i64 1)) h8 fun t22 =>
        ∃ j, j < l.length - i ∧ ∃ (i : Nat) (v : Value) (c : Nat), t22 = .int .i64 i ∧ i ≤ l.length ∧ j = l.length - i ∧ c ≤ i ∧ GQ h h8 v v c) E) E := by
        intro x hx hf
        refine slice1_rule Tryz.info148 Tryz.underlying142 hx (by omega) (by omega) fun h3 a3 => ?_
        refine push_piece g hx hf (by omega) a3 fun w h4 g4 _ => ?_
        refine g4.st fun h5 g5 _ => ?_
        rw [reads_add, wrap_n1 _ (by omega)]
        exact ⟨l.length - (i + 1), by omega, i + 1, w, c + 1, rfl, by omega, rfl, by omega, g5⟩
      refine bcase_of (fun hc => ?_) (fun hc => ?_)
      · simp only [reads_nil, Tryz.fa144_0, addr_add, Nat.zero_add, cv, Tryz.bd148_0]
        exact fin (x := .agg #[.int .i64 3, .int .u64 0, .int .u64 0, .int .u64 0, .int .u64 0]) rfl (by intro u hu; simp [Value.cells] at hu; rcases hu with rfl | rfl <;> rfl)
      refine bcase_of (fun hc => ?_) (fun hc => ?_)
      · simp only [reads_nil, Tryz.fa144_0, addr_add, Nat.zero_add, cv, Tryz.bd148_0]
        exact fin (x := .agg #[.int .i64 2, .int .u64 0, .int .u64 0, .int .u64 0, .int .u64 0]) rfl (by intro u hu; simp [Value.cells] at hu; rcases hu with rfl | rfl <;> rfl)
      refine bcase_of (fun hc => ?_) (fun hc => ?_)
      · rw [reads_add, wrap_n1 _ (by omega)]
        have g2l := g.lt
        have gl2 : Gl S h2 := gl.fm g.fm hn hn
        refine set_bracket_spec (lang := 2) gl2 (by omega) hb2 (fun b o m c e => by have := hbl b o m c e; omega) (by omega) (by omega) (.inl rfl) ?_
        have he := bracketS_end (lang := 2) (l := l) (p := i + 1) (by omega)
        unfold OwesB
        cases hm : bracketS 2 l (i + 1) with
        | out => rw [hm] at he; exact he
        | bad code pos =>
          intro h3 e f3 ie
          rw [reads_ext0, reads_ext1, reads_ext2]
          obtain ⟨a, b, _, _, rfl, _⟩ := ie
          refine alloc_rule Tryz.zero146 fun h4 a4 => ?_
          refine storeFull a4.at_ (xs := W4.zero.vals.toArray) Tryz.size146 rfl (flat_vals _) fun h5 u5 => ?_
          rw [Tryz.eql26_s, boolV_bool, bcase_false]
          exact ⟨i, rfl, Nat.le_refl _, hlt, (g.fr f3).fr ((Fm.al a4 (Nat.le_refl _)).trans (Fm.upd u5 (.inl (Nat.le_refl _))))⟩
        | ok y =>
          rw [hm] at he
          obtain ⟨s, q⟩ := y
          simp only at he
          intro h3 f3
          rw [reads_ext0, reads_ext1, reads_ext2]
          have s3 := f3.size
          refine alloc_rule Tryz.zero146 fun h4 a4 => ?_
          have s4 := a4.size
          refine storeFull a4.at_ (xs := s.vals.toArray) Tryz.size146 rfl (flat_vals _) fun h5 u5 => ?_
          have s5 := u5.size
          rw [Tryz.eql26_n, boolV_bool, bcase_true]
          have g5 : GQ h h5 v v c := (g.fr f3).fr ((Fm.al a4 (Nat.le_refl _)).trans (Fm.upd u5 (.inl (Nat.le_refl _))))
          refine ⟨fun h' => h'[h.size]? = some (.cells #[v] 144 (0, 0)) ∧ h'[h3.size]? = some (.cells s.vals.toArray 146 (0, 0)), ⟨g5.cell, u5.same⟩, ?_⟩
          refine readsS_lift (v := ptr h.size) (fun h k => by rw [reads_nil]) ?_
          refine readsS_lift (v := ptr h.size) (fun h k => by rw [Tryz.fa144_0, addr_add]) ?_
          refine pLoadS_one Tryz.agg142 (v := v) (fun h hs => by rw [hcell_of hs.1]; rfl) ?_
          refine pLoadS_all (cs := s.vals.toArray) Tryz.agg146 (fun h hs => hs.2) ?_
          refine readsS_lift (v := .agg #[.int .i64 1, .int .u64 s.a, .int .u64 s.b, .int .u64 s.c, .int .u64 s.d]) (fun h k => by rw [show Value.agg s.vals.toArray = .agg #[.int .u64 s.a, .int .u64 s.b, .int .u64 s.c, .int .u64 s.d] from rfl, Tryz.bd148_0_1]) ?_
          have h5l := g5.lt
          refine ⟨slice1_rule Tryz.info148 Tryz.underlying142 rfl (by omega) (by omega) fun h6 a6 => ?_, trivial⟩
          have hn3 : h3.size < h5.size := by omega
          refine ⟨⟨(g5.al a6).cell, (a6.old _ hn3).trans u5.same⟩, push_piece g5 rfl ?_ (by omega) a6 fun w h7 g7 e7 => ?_, trivial⟩
          · intro u hu
            simp [Value.cells] at hu
            rcases hu with rfl | rfl | rfl | rfl | rfl <;> rfl
          refine ⟨⟨g7.cell, (e7 _ (by rw [a6.size]; omega) fun e => ?_).trans ((a6.old _ hn3).trans u5.same)⟩, ?_⟩
          · obtain ⟨xs, _, ho⟩ := g.own
            rcases ho with ⟨rfl, _⟩ | ⟨gg, cap, cur, rfl, _, e2, _⟩
            · cases e
            · have : gg = h3.size := by simpa [Value.ownBlock] using e
              have := at_lt e2
              omega
          rw [reads_nil, Tryz.fa144_0, addr_add]
          refine ⟨g7.st fun h8 g8 _ => ⟨trivial, ?_⟩, trivial⟩
          rw [reads_sub, wrap_s1 q (by omega) (by omega), reads_add, wrap_n1 _ (by omega)]
          exact ⟨l.length - q, by omega, q, w, c + 1, by rw [Nat.sub_add_cancel (by omega)], by omega, rfl, by omega, g8⟩
      refine bcase_of (fun hc => ?_) (fun hc => ?_)
      · rw [reads_add, wrap_n1 _ (by omega), reads_blen hb2 Tryz.underlying115, reads_lt, dec_nn_lt, boolV_bool]
        refine bcase_of (fun hc => ?_) (fun hc => ?_)
        · rw [reads_add, wrap_n1 _ (by omega)]
          exact ⟨i + 1, rfl, by omega, of_decide_eq_true hc, g⟩
        · exact ⟨i, rfl, Nat.le_refl _, hlt, g⟩
      · exact ⟨i, rfl, Nat.le_refl _, hlt, g⟩
    · rintro _ h3 ⟨j, rfl, hij, hjl, g3⟩
      have hb3 := keep g3.fm
      refine ⟨fun h' => h'[h.size]? = some (.cells #[v] 144 (0, 0)) ∧ IsBytes h' bv l, ⟨g3.cell, hb3⟩, ?_⟩
      refine readsS_lift (v := ptr h.size) (fun h k => by rw [reads_nil]) ?_
      refine readsS_lift (v := ptr h.size) (fun h k => by rw [Tryz.fa144_0, addr_add]) ?_
      refine pLoadS_one Tryz.agg142 (v := v) (fun h hs => by rw [hcell_of hs.1]; rfl) ?_
      refine idx_loadS (h := h3) ⟨g3.cell, hb3⟩ (fun h hs => hs.2) hjl ?_
      refine ⟨one_spec fun h4 f4 => ?_, trivial⟩
      have g4 := g3.fr f4
      refine ⟨⟨g4.cell, keep g4.fm⟩, slice1_rule Tryz.info148 Tryz.underlying142 rfl (by omega) (by omega) fun h5 a5 => ?_, trivial⟩
      refine ⟨⟨(g4.al a5).cell, keep (g4.al a5).fm⟩, push_piece g4 rfl ?_ (by omega) a5 fun w h6 g6 _ => ?_, trivial⟩
      · intro u hu
        simp only [Value.cells, W4.vals, List.append_toArray, List.singleton_append, List.mem_cons, List.not_mem_nil, or_false] at hu
        rcases hu with rfl | rfl | rfl | rfl | rfl <;> rfl
      refine ⟨⟨g6.cell, keep g6.fm⟩, ?_⟩
      rw [reads_nil, Tryz.fa144_0, addr_add]
      refine ⟨g6.st fun h7 g7 _ => ⟨trivial, ?_⟩, trivial⟩
      rw [reads_add, wrap_n1 _ (by omega)]
      exact ⟨l.length - (j + 1), by omega, j + 1, w, c + 1, rfl, by omega, rfl, by omega, g7⟩
  · exact hy hle h2 _ g.fm
end Rt
end Go.Proofs

set_option maxRecDepth 100000
namespace Go.Proofs
open Go.Vcg Go.Extern
namespace Rt
attribute [local congr] Reads.congr ReadsS.congr pLoad.congr pLoadS.congr pStore.congr Runs.congr CallsH.congr bcase.congr boolV.congr Stable.congr pAlloc.congr
variable {S : Glb} {n : Nat} {h : Heap} {r : Nat} {ov : Value} {l : List Op} {p op : Nat} {ac : Bool} {R : Value → Heap → Prop} {E : List PanicEntry → Heap → Prop}

/-! ### Strings' heads and tails -/
theorem hasPrefix_spec {s q : Op} (hk : R (.bool (Go.Lib.hasPrefix s q)) h) : CallsH Tryz.prog 83 #[str s, str q] h R E := by
  intro w hw
  subst hw
  refine Calls.mono (Tryz.strings_HasPrefix ⟨s.toArray⟩ ⟨q.toArray⟩ w) ?_
  rintro e w' ⟨rfl, rfl⟩
  exact ⟨⟨rfl, rfl, rfl⟩, hk⟩
theorem cutPrefix_spec {s q : Op} (hk : R (.tuple #[str (Go.Lib.trimPrefix s q), .bool (Go.Lib.hasPrefix s q)]) h) : CallsH Tryz.prog 98 #[str s, str q] h R E := by
  intro w hw
  subst hw
  refine Calls.mono (Tryz.strings_CutPrefix ⟨s.toArray⟩ ⟨q.toArray⟩ w) ?_
  rintro e w' ⟨rfl, rfl⟩
  exact ⟨⟨rfl, rfl, rfl⟩, hk⟩
theorem cutSuffix_spec {s q : Op} (hs : s.length ≤ 1000000) (hk : R (.tuple #[str (Go.Lib.trimSuffix s q), .bool (Go.Lib.hasSuffix s q)]) h) : CallsH Tryz.prog 82 #[str s, str q] h R E := by
  intro w hw
  subst hw
  refine Calls.mono (Tryz.strings_CutSuffix ⟨s.toArray⟩ ⟨q.toArray⟩ w (by simp [ByteArray.size]; omega)) ?_
  rintro e w' ⟨rfl, rfl⟩
  exact ⟨⟨rfl, rfl, rfl⟩, hk⟩
theorem reads_sdrop {t : TypeId} {a : Op} {i : Nat} {k : Value → Prop} (ht : Tryz.prog.underlying t = some .string) (hi : i ≤ a.length) : Reads Tryz.prog (Instr.sliceAt t (str a) (some (.int .i64 i)) none none) h k = k (str (a.drop i)) := reads_pure fun w => by
  have hsz : (⟨a.toArray⟩ : ByteArray).size = a.length := by simp [ByteArray.size]
  have he : (⟨a.toArray⟩ : ByteArray).extract i (⟨a.toArray⟩ : ByteArray).size = ⟨(a.drop i).toArray⟩ := by
    apply ByteArray.ext
    rw [ByteArray.data_extract, hsz]
    apply Array.ext'
    rw [Array.toList_extract]
    simp [List.extract_eq_take_drop, List.take_of_length_le]
  unfold str
  have h1 : i ≤ (⟨a.toArray⟩ : ByteArray).size := by omega
  simp [Instr.sliceAt, Instr.slice, Instr.sliceBounds, Instr.sliceBound, asIntOf, Go.underlying, program, Sem.run, ht, h1, he]
theorem reads_neg {K : IntKind} {m : Int} {k : Value → Prop} : Reads Tryz.prog (Op.unary .neg (.int K m)) h k = k (.int K (K.wrap (-m))) := reads_pure fun _ => by simp [Op.unary, Op.intArith]

/-! ### A number, read -/
def wholeL (lim : Nat) : Op → Nat → Option Nat
  | [], n => some n
  | x :: xs, n => if x < 48 ∨ 57 < x then none else if (lim - (x.toNat - 48)) / 10 < n then none else wholeL lim xs (n * 10 + (x.toNat - 48))
theorem wholeL_le {lim : Nat} (h9 : 9 ≤ lim) : ∀ (s : Op) {n m : Nat}, n ≤ lim → wholeL lim s n = some m → m ≤ lim
  | [], n, m, hn, e => by simp only [wholeL, Option.some.injEq] at e; omega
  | x :: xs, n, m, hn, e => by
    unfold wholeL at e
    split at e
    · cases e
    split at e
    · cases e
    · rename_i h1 h2
      refine wholeL_le h9 xs ?_ e
      simp only [not_or, UInt8.not_lt] at h1
      have a1 : 48 ≤ x.toNat := UInt8.le_iff_toNat_le.1 h1.1
      have a2 : x.toNat ≤ 57 := UInt8.le_iff_toNat_le.1 h1.2
      by_cases hl : x.toNat - 48 ≤ lim
      · have : n ≤ (lim - (x.toNat - 48)) / 10 := by omega
        have := Nat.mul_le_of_le_div 10 n _ this
        omega
      · have : lim - (x.toNat - 48) = 0 := by omega
        rw [this] at h2
        have hn0 : n = 0 := by omega
        omega
def whole0 (s : Op) : Option Nat := if s = [] ∨ s.head? = some 45 then none else wholeL 9223372036854775807 s 0
theorem hasPrefix1 {s : Op} {c : UInt8} : Go.Lib.hasPrefix s [c] = decide (s.head? = some c) := by
  cases s with
  | nil => simp [Go.Lib.hasPrefix]
  | cons x xs =>
    simp only [Go.Lib.hasPrefix, List.isPrefixOf, Bool.and_true, List.head?_cons, Option.some.injEq]
    by_cases hx : c = x
    · subst hx; simp
    · simp [hx, Ne.symm hx]
theorem whole_spec {s : Op} (hs : s.length ≤ 1000000)
    (hk : ∀ h' (x : Int) b, Fm h.size h.size h h' → (s.head? ≠ some 45 → ∀ m : Nat, whole0 s = some m → x = m ∧ b = true) → (whole0 s = none → b = false ∨ s.head? = some 45) → (b = true → s ≠ []) → R (.tuple #[.int .i64 x, .bool b]) h') :
    CallsH Tryz.prog 84 #[str s] h R E := by
  refine C84 ?_
  unfold S84
  refine cutPrefix_spec ?_
  rw [reads_ext0, reads_ext1, reads_seq, boolV_bool]
  refine bcase_of (fun hc => ?_) (fun hc => ?_)
  · have hc := of_decide_eq_true hc
    refine hk h 0 false (Fm.refl ..) (fun hh m hm => ?_) (fun _ => .inl rfl) (by simp)
    have : s = [] := by
      rw [Go.Lib.trimPrefix, hasPrefix1, if_neg (by simp [hh])] at hc
      exact hc
    subst this
    simp [whole0] at hm
  have hc := of_decide_eq_false hc
  have hne : s ≠ [] := by
    rintro rfl
    exact hc (by simp [Go.Lib.trimPrefix])
  -- the limit
  obtain ⟨lim, hlim, hl1, hl2⟩ : ∃ lim : Nat, lim = (if Go.Lib.hasPrefix s [45] then 9223372036854775808 else 9223372036854775807) ∧ 9223372036854775807 ≤ lim ∧ lim ≤ 9223372036854775808 := by
    refine ⟨_, rfl, ?_, ?_⟩ <;> split <;> omega
  refine Join1.intro (fun v h' => h' = h ∧ v = .int .u64 lim) ?_ ?_
  · rw [boolV_bool]
    refine bcase_of (fun hy => ?_) (fun hn => ?_)
    · rw [reads_add]
      exact ⟨rfl, by rw [hlim, if_pos hy]; rfl⟩
    · exact ⟨rfl, by rw [hlim, if_neg (by simp [hn])]; rfl⟩
  rintro _ h1 ⟨rfl, rfl⟩
  have htl : (Go.Lib.trimPrefix s [45]).length ≤ 1000000 := by
    unfold Go.Lib.trimPrefix
    split
    · rw [List.length_drop]; omega
    · exact hs
  generalize hq : Go.Lib.trimPrefix s [45] = q at *
  have res : ∀ {h' : Heap} {x : Int} {b : Bool}, Fm h1.size h1.size h1 h' → (s.head? ≠ some 45 → (b = true ∧ ∃ m : Nat, x = m ∧ wholeL lim q 0 = some m) ∨ (b = false ∧ wholeL lim q 0 = none)) → R (.tuple #[.int .i64 x, .bool b]) h' := by
    intro h' x b f hh
    have key : s.head? ≠ some 45 → lim = 9223372036854775807 ∧ q = s ∧ whole0 s = wholeL lim q 0 := by
      intro h45
      have hp : Go.Lib.hasPrefix s [45] = false := by rw [hasPrefix1]; simpa using h45
      have e1 : lim = 9223372036854775807 := by rw [hlim, hp]; simp
      have e2 : q = s := by rw [← hq, Go.Lib.trimPrefix, hp]; simp
      refine ⟨e1, e2, ?_⟩
      rw [whole0, if_neg (by simp [hne, h45]), e1, e2]
    refine hk h' x b f (fun h45 m hm => ?_) (fun hm => ?_) (fun _ => hne)
    · obtain ⟨_, _, e3⟩ := key h45
      rw [e3] at hm
      rcases hh h45 with ⟨hb, m', hx, hw⟩ | ⟨_, hw⟩
      · rw [hm] at hw
        injection hw with hw
        exact ⟨by rw [hx, hw], hb⟩
      · rw [hm] at hw; cases hw
    · by_cases h45 : s.head? = some 45
      · exact .inr h45
      · obtain ⟨_, _, e3⟩ := key h45
        rw [e3] at hm
        rcases hh h45 with ⟨hb, m', hx, hw⟩ | ⟨hb, _⟩
        · rw [hm] at hw; cases hw
        · exact .inl hb
  refine runs_sbytes fun v h2 cap f2 hb hv hlt => ?_
  rw [reads_blen hb Tryz.underlying115]
  refine Loop2.fuel (fun k a b h' => ∃ (i m : Nat), a = .int .u64 m ∧ b = .int .i64 i ∧ i ≤ q.length ∧ k = q.length - i ∧ m ≤ lim ∧ h' = h2 ∧ wholeL lim q 0 = wholeL lim (q.drop i) m) (n := q.length)
    ⟨0, 0, rfl, rfl, by omega, by omega, by omega, rfl, by simp⟩ fun k a b h3 hi => ?_
  obtain ⟨i, m, rfl, rfl, hi, rfl, hm, rfl, hw⟩ := hi
  rw [reads_lt, dec_nn_lt, boolV_bool]
  refine bcase_of (fun hc => ?_) (fun hc => ?_)
  · have hlt := of_decide_eq_true hc
    refine idx_load hb Tryz.underlying115 Tryz.size5 Tryz.agg5 hlt ?_
    rw [List.drop_eq_getElem_cons hlt] at hw
    have hx := q[i].toNat_lt
    refine Join0.intro (fun h' => h' = h3 ∧ 48 ≤ q[i].toNat ∧ q[i].toNat ≤ 57) ?_ ?_
    · rw [reads_lt, boolV_bool]
      refine bcase_of (fun hc => ?_) (fun hc => ?_)
      · have hc := of_decide_eq_true hc
        refine res f2 fun _ => .inr ⟨rfl, ?_⟩
        rw [hw, wholeL, if_pos (.inl (UInt8.lt_iff_toNat_lt.2 (by show q[i].toNat < 48; omega)))]
      have hc := of_decide_eq_false hc
      rw [reads_gt, boolV_bool]
      refine bcase_of (fun hc => ?_) (fun hc => ?_)
      · have hc := of_decide_eq_true hc
        refine res f2 fun _ => .inr ⟨rfl, ?_⟩
        rw [hw, wholeL, if_pos (.inr (UInt8.lt_iff_toNat_lt.2 (by show 57 < q[i].toNat; omega)))]
      have hc := of_decide_eq_false hc
      exact ⟨rfl, by omega, by omega⟩
    rintro h4 ⟨rfl, c1, c2⟩
    have hwr : IntKind.u8.wrap ((q[i].toNat : Int) - 48) = ((q[i].toNat - 48 : Nat) : Int) := by
      rw [show ((q[i].toNat : Int) - 48) = ((q[i].toNat - 48 : Nat) : Int) from by omega]
      exact wrap_u8 (by omega)
    rw [reads_sub, hwr, reads_conv_int Tryz.underlying5 Tryz.underlying121, wrap_u64 (by omega), reads_sub]
    have hwl : IntKind.u64.wrap ((lim : Int) - ((q[i].toNat - 48 : Nat) : Int)) = ((lim - (q[i].toNat - 48) : Nat) : Int) := by
      rw [show ((lim : Int) - ((q[i].toNat - 48 : Nat) : Int)) = ((lim - (q[i].toNat - 48) : Nat) : Int) from by omega]
      exact wrap_u64 (by omega)
    rw [hwl, reads_quo (by omega)]
    have hq10 : IntKind.u64.wrap (((lim - (q[i].toNat - 48) : Nat) : Int).tdiv 10) = (((lim - (q[i].toNat - 48)) / 10 : Nat) : Int) := by
      rw [Int.tdiv_eq_ediv_of_nonneg (by omega), show (((lim - (q[i].toNat - 48) : Nat) : Int) / 10) = (((lim - (q[i].toNat - 48)) / 10 : Nat) : Int) from by omega]
      exact wrap_u64 (by omega)
    rw [hq10, reads_gt, dec_nn_lt, boolV_bool]
    have hne1 : ¬ (q[i] < 48 ∨ 57 < q[i]) := by
      simp only [not_or, UInt8.not_lt]
      exact ⟨UInt8.le_iff_toNat_le.2 c1, UInt8.le_iff_toNat_le.2 c2⟩
    refine bcase_of (fun hc => ?_) (fun hc => ?_)
    · have hc := of_decide_eq_true hc
      refine res f2 fun _ => .inr ⟨rfl, ?_⟩
      rw [hw, wholeL, if_neg hne1, if_pos hc]
    · have hc := of_decide_eq_false hc
      have hb10 : m * 10 + (q[i].toNat - 48) ≤ lim := by
        have := Nat.mul_le_of_le_div 10 m _ (Nat.le_of_not_lt hc)
        omega
      have w1 : IntKind.u64.wrap ((m : Int) * 10) = ((m * 10 : Nat) : Int) := by
        rw [show ((m : Int) * 10) = ((m * 10 : Nat) : Int) from by omega]
        exact wrap_u64 (by omega)
      have w2 : IntKind.u64.wrap (((m * 10 : Nat) : Int) + ((q[i].toNat - 48 : Nat) : Int)) = ((m * 10 + (q[i].toNat - 48) : Nat) : Int) := by
        rw [show (((m * 10 : Nat) : Int) + ((q[i].toNat - 48 : Nat) : Int)) = ((m * 10 + (q[i].toNat - 48) : Nat) : Int) from by omega]
        exact wrap_u64 (by omega)
      rw [reads_mul, w1, reads_add, w2, reads_add, wrap_n1 _ (by omega)]
      refine ⟨q.length - (i + 1), by omega, i + 1, _, rfl, rfl, by omega, rfl, hb10, rfl, ?_⟩
      rw [hw, wholeL, if_neg hne1, if_neg hc]
  · have hil : i = q.length := by have := of_decide_eq_false hc; omega
    subst hil
    rw [List.drop_length, wholeL] at hw
    rw [boolV_bool]
    refine bcase_of (fun hy => ?_) (fun hn => ?_)
    · rw [reads_conv_int Tryz.underlying121 Tryz.underlying2, reads_neg]
      refine res f2 fun h45 => ?_
      rw [hasPrefix1] at hy
      exact absurd (of_decide_eq_true hy) h45
    · rw [reads_conv_int Tryz.underlying121 Tryz.underlying2]
      have hle : lim = 9223372036854775807 := by rw [hlim, hn]; simp
      have : IntKind.i64.wrap (m : Int) = m := by
        simp only [IntKind.wrap, IntKind.bits, IntKind.signed]
        simp
        omega
      rw [this]
      exact res f2 fun _ => .inl ⟨rfl, m, rfl, hw⟩
end Rt
end Go.Proofs
