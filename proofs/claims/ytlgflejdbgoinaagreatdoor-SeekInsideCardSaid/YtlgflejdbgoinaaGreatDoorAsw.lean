/- A part of the proofs over this seat: Asw. -/
import Derived.Test.YtlgflejdbgoinaaGreatDoorAsx
set_option linter.unusedVariables false
set_option linter.unusedSimpArgs false
set_option maxRecDepth 100000
namespace Go.Proofs
open Go.Vcg Go.Extern
namespace Rt
attribute [local congr] Reads.congr ReadsS.congr pLoad.congr pLoadS.congr pStore.congr Runs.congr CallsH.congr bcase.congr boolV.congr Stable.congr pAlloc.congr
variable {S : Glb} {n : Nat} {h : Heap} {r : Nat} {R : Value → Heap → Prop} {E : List PanicEntry → Heap → Prop}

/-! ### errors.As -/
theorem as_front {X Y : Nat} {k fx fy fe : Int} (A : AsOk X Y k fx fy fe) {T0 : TypeId} {v0 old : Value} {tgt : Nat} (hb : h[tgt]? = some (.cells #[old] Y (0, 0))) (gl : Gl S h) (hn : S.N ≤ h.size)
    (hk : ∀ h' a, Fm h.size h.size h h' → h.size ≤ a → h'[a]? = some (.cells #[ptr tgt] X (0, 0)) → CallsH Tryz.prog 42 #[.iface T0 v0, .iface X (ptr tgt), rv X ⟨a, 0, none⟩ fx, rt Y] h' R E) :
    CallsH Tryz.prog 22 #[.iface T0 v0, .iface X (ptr tgt)] h R E := by
  refine C22 ?_
  unfold S22
  rw [Tryz.eql26_s, boolV_bool, bcase_false]
  refine Join0.intro (fun h' => h' = h) ?_ ?_
  · rw [Tryz.eql20_s, boolV_bool, bcase_false]
  rintro h1 rfl
  rw [ext1_eq]
  refine runs_new (v := rv X ⟨h1.size, 0, none⟩ fx) (o := .cells #[ptr tgt] X) (fun w hw => by rw [← hw]; exact A.vo _ w) fun h2 a2 => ?_
  have s2 := a2.size
  refine alloc_rule Tryz.zero87 fun h3 a3 => ?_
  have s3 := a3.size
  refine storeFull a3.at_ (xs := #[.pointer (some ⟨26, X, none⟩), .pointer (some ⟨h1.size, 0, none⟩), .int .u64 fx]) Tryz.size87 rfl (by intro v hv; simp at hv; rcases hv with rfl | rfl | rfl <;> rfl) fun h4 u4 => ?_
  have s4 := u4.size
  have f14 : Fm h1.size h1.size h1 h4 := ((Fm.al a2 (Nat.le_refl _)).trans (Fm.al a3 (by omega))).trans (Fm.upd u4 (.inl (by omega)))
  have e1 : h4[h1.size]? = some (.cells #[ptr tgt] X (0, 0)) := (u4.other _ (by omega)).trans ((a3.old _ (by omega)).trans a2.at_)
  have c1 : ∀ w : World, w.heap = h4 → w.cell? ⟨h1.size, 0, none⟩ = some (ptr tgt) := fun w hw => by rw [cell_eq, hw, hcell_of e1]; rfl
  refine load_all u4.same Tryz.agg87 ?_
  rw [ext1_eq]
  refine runs_val (fun w _ => A.ty _ w) ?_
  refine Join0.intro (fun h' => h' = h4) ?_ ?_
  · rw [meth_eq]
    refine runs_val (fun w _ => A.kd w) ?_
    rw [reads_ne, boolV_bool]
    refine bcase_of (fun hc => by simp at hc) (fun _ => ?_)
    refine load_all u4.same Tryz.agg87 ?_
    rw [ext1_eq]
    refine runs_val (fun w hw => A.nn _ _ w (c1 w hw)) ?_
    rw [boolV_bool, bcase_false]
  rintro h5 rfl
  rw [meth_eq]
  refine runs_val (fun w _ => A.el w) ?_
  rw [meth_eq]
  refine runs_val (fun w _ => A.ky w) ?_
  rw [reads_ne, boolV_bool]
  refine bcase_of (fun _ => ?_) (fun hc => absurd (by simpa using hc) A.k20)
  have g5 := gl.fm f14 hn hn
  rw [pLoad_one (v := rt 26) Tryz.agg90 g5.t]
  rw [meth_eq]
  refine runs_val (fun w _ => A.im w) ?_
  rw [reads_not, boolV_bool]
  refine bcase_of (fun hc => by simp at hc) (fun _ => ?_)
  refine load_all u4.same Tryz.agg87 ?_
  exact hk h5 h1.size f14 (Nat.le_refl _) e1

theorem to81 (v : Value) (w : World) : (ext1 55 #[.iface 76 v]).run Tryz.prog w = .ok (.value (rt 76)) w := by kernel_rfl
theorem to77 (v : Value) (w : World) : (ext1 55 #[.iface 72 v]).run Tryz.prog w = .ok (.value (rt 72)) w := by kernel_rfl
theorem to62 (v : Value) (w : World) : (ext1 55 #[.iface 58 v]).run Tryz.prog w = .ok (.value (rt 58)) w := by kernel_rfl
theorem to199 (v : Value) (w : World) : (ext1 55 #[.iface 194 v]).run Tryz.prog w = .ok (.value (rt 194)) w := by kernel_rfl
theorem ve81 (a : Addr) (w : World) : (ext1 39 #[.iface 76 (.pointer (some a))]).run Tryz.prog w = .ok (.value (rv 76 ⟨w.heap.size, 0, none⟩ 150)) { w with heap := w.heap.push (.cells #[.pointer (some a)] 76) } := by kernel_rfl
theorem ve77 (a : Addr) (w : World) : (ext1 39 #[.iface 72 (.pointer (some a))]).run Tryz.prog w = .ok (.value (rv 72 ⟨w.heap.size, 0, none⟩ 150)) { w with heap := w.heap.push (.cells #[.pointer (some a)] 72) } := by kernel_rfl
theorem ve62 (x : Value) (w : World) : (ext1 39 #[.iface 58 (.agg #[x])]).run Tryz.prog w = .ok (.value (rv 58 ⟨w.heap.size, 0, none⟩ 153)) { w with heap := w.heap.push (.cells #[x] 58) } := by kernel_rfl
theorem na81_77 (w : World) : (meth "AssignableTo" (rt 76) #[rt 72]).run Tryz.prog w = .ok (.value (.bool false)) w := by kernel_rfl
theorem cmp199 (w : World) : (meth "Comparable" (rt 194) #[]).run Tryz.prog w = .ok (.value (.bool true)) w := by kernel_rfl
theorem unw81 (a : Addr) (w : World) : (meth "Unwrap" (.iface 76 (.pointer (some a))) #[]).run Tryz.prog w = .ok (.enter 142 #[.pointer (some a)]) w := by kernel_rfl
theorem unw77 (a : Addr) (w : World) : (meth "Unwrap" (.iface 72 (.pointer (some a))) #[]).run Tryz.prog w = .ok (.enter 140 #[.pointer (some a)]) w := by kernel_rfl
theorem ta {T I : TypeId} {want : Array (String × TypeId)} {v : Value} {k : Value → Prop} (hu : Tryz.prog.underlying I = some (.interface want)) (h1 : (Tryz.prog.info? T).map (fun i => (lacking want i.methods).isEmpty) = some true) :
    Reads Tryz.prog (Instr.typeAssert (.iface T v) 26 I true) h k = k (.tuple [.iface T v, .bool true].toArray) := reads_pure fun w => run_typeAssert_hasB hu h1 v 26 w
theorem tn {T I : TypeId} {want : Array (String × TypeId)} {v : Value} {k : Value → Prop} (hu : Tryz.prog.underlying I = some (.interface want)) (h1 : (Tryz.prog.info? T).map (fun i => (lacking want i.methods).isEmpty) = some false) (hz : (Tryz.prog.info? I).map (·.zero) = some (some .nilIface)) :
    Reads Tryz.prog (Instr.typeAssert (.iface T v) 26 I true) h k = k (.tuple [.nilIface, .bool false].toArray) := reads_pure fun w => run_typeAssert_lacksB hu h1 hz v 26 w

/-- the error's own type is the target's -/
theorem as_hit {X Y : Nat} {k fx fy fe : Int} (A : AsOk X Y k fx fy fe) {v0 x old T1 : Value} {tgt a : Nat} (hb : h[tgt]? = some (.cells #[old] Y (0, 0))) (ha : h[a]? = some (.cells #[ptr tgt] X (0, 0)))
    (hto : ∀ w : World, (ext1 55 #[.iface Y v0]).run Tryz.prog w = .ok (.value (rt Y)) w)
    (hve : ∀ w : World, (ext1 39 #[.iface Y v0]).run Tryz.prog w = .ok (.value (rv Y ⟨w.heap.size, 0, none⟩ fe)) { w with heap := w.heap.push (.cells #[x] Y) }) (hx : flat x = true)
    (hk : ∀ h', Fm h.size tgt h h' → h'[tgt]? = some (.cells #[x] Y (0, 0)) → R (.bool true) h') : CallsH Tryz.prog 42 #[.iface Y v0, T1, rv X ⟨a, 0, none⟩ fx, rt Y] h R E := by
  refine C42 ?_
  unfold S42
  refine new_rule fun h1 a1 => ?_
  have s1 := a1.size
  have lb := at_lt hb
  refine Loop1.fuel (fun _ v h' => v = .iface Y v0 ∧ h' = h1) (n := 0) ⟨rfl, rfl⟩ ?_
  rintro _ v h2 ⟨rfl, rfl⟩
  rw [ext1_eq]
  refine runs_val (fun w _ => hto w) ?_
  rw [meth_eq]
  refine runs_val (fun w _ => A.ay w) ?_
  rw [boolV_bool, bcase_true]
  refine load_all a1.at_ Tryz.agg87 ?_
  have e1 : h2[a]? = some (.cells #[ptr tgt] X (0, 0)) := (a1.old a (at_lt ha)).trans ha
  rw [ext1_eq]
  refine runs_val (fun w hw => A.ev ⟨a, 0, none⟩ ⟨tgt, 0, none⟩ w (by rw [cell_eq, hw, hcell_of e1]; rfl)) ?_
  rw [ext1_eq]
  refine runs_new (v := rv Y ⟨h2.size, 0, none⟩ fe) (o := .cells #[x] Y) (fun w hw => by rw [← hw]; exact hve w) fun h3 a3 => ?_
  have s3 := a3.size
  have b3 : h3[tgt]? = some (.cells #[old] Y (0, 0)) := (a3.old tgt (by omega)).trans ((a1.old tgt lb).trans hb)
  rw [ext1_eq]
  refine runs_set b3 (fun w hw => A.st h2.size tgt x old w (by rw [hw]; exact a3.at_) (by rw [hw]; exact b3) hx) fun h4 u4 => ?_
  exact hk h4 (((Fm.al a1 (Nat.le_refl _)).trans (Fm.al a3 (by omega))).trans (Fm.upd u4 (.inr rfl))) u4.same

theorem unw170 {a : Nat} {x y : Value} {T : TypeId} {K : Value → Heap → Prop} (hb : h[a]? = some (.cells #[x, y] T (0, 0))) (hk : K x h) : CallsH Tryz.prog 142 #[ptr a] h K E := by
  refine C142 ?_
  unfold S142
  rw [reads_nil, Tryz.fa79_0, addr_add, pLoad_one (v := x) Tryz.agg26 (by rw [hcell_of hb]; rfl)]
  exact hk
theorem unw168 {a : Nat} {x y : Value} {T : TypeId} {K : Value → Heap → Prop} (hb : h[a]? = some (.cells #[x, y] T (0, 0))) (hk : K x h) : CallsH Tryz.prog 140 #[ptr a] h K E := by
  refine C140 ?_
  unfold S140
  rw [reads_nil, Tryz.fa75_0, addr_add, pLoad_one (v := x) Tryz.agg26 (by rw [hcell_of hb]; rfl)]
  exact hk
/-- the error is a spoken one, around a placed one: that is wanted -/
theorem as_placed {old T1 y : Value} {tgt a c d : Nat} (hb : h[tgt]? = some (.cells #[old] 72 (0, 0))) (ha : h[a]? = some (.cells #[ptr tgt] 73 (0, 0))) (hc : h[c]? = some (.cells #[.iface 72 (ptr d), y] 79 (0, 0)))
    (hk : ∀ h', Fm h.size tgt h h' → h'[tgt]? = some (.cells #[ptr d] 72 (0, 0)) → R (.bool true) h') : CallsH Tryz.prog 42 #[.iface 76 (ptr c), T1, rv 73 ⟨a, 0, none⟩ 150, rt 72] h R E := by
  refine C42 ?_
  unfold S42
  refine new_rule fun h1 a1 => ?_
  have s1 := a1.size
  have lb := at_lt hb
  refine Loop1.fuel (fun k v h' => h' = h1 ∧ ((k = 1 ∧ v = .iface 76 (ptr c)) ∨ (k = 0 ∧ v = .iface 72 (ptr d)))) (n := 1) ⟨rfl, .inl ⟨rfl, rfl⟩⟩ ?_
  rintro _ v h2 ⟨rfl, ⟨rfl, rfl⟩ | ⟨rfl, rfl⟩⟩
  · rw [ext1_eq]
    refine runs_val (fun w _ => to81 _ w) ?_
    rw [meth_eq]
    refine runs_val (fun w _ => na81_77 w) ?_
    rw [boolV_bool, bcase_false]
    refine Join0.intro (fun h' => h' = h2) ?_ ?_
    · rw [tn Tryz.underlying106 (by kernel_rfl) (by kernel_rfl), reads_ext0, reads_ext1, boolV_bool, bcase_false]
    rintro h3 rfl
    rw [ta Tryz.underlying109 (by kernel_rfl), reads_ext1, reads_ext0, boolV_bool, bcase_true]
    rw [meth_eq]
    refine runs_enter (fun w _ => unw81 _ w) ?_
    refine unw170 ((a1.old c (at_lt hc)).trans hc) ?_
    rw [Tryz.eql26_s, boolV_bool, bcase_false]
    exact ⟨0, by omega, rfl, .inr ⟨rfl, rfl⟩⟩
  · rw [ext1_eq]
    refine runs_val (fun w _ => to77 _ w) ?_
    rw [meth_eq]
    refine runs_val (fun w _ => as77.ay w) ?_
    rw [boolV_bool, bcase_true]
    refine load_all a1.at_ Tryz.agg87 ?_
    have e1 : h2[a]? = some (.cells #[ptr tgt] 73 (0, 0)) := (a1.old a (at_lt ha)).trans ha
    rw [ext1_eq]
    refine runs_val (fun w hw => as77.ev ⟨a, 0, none⟩ ⟨tgt, 0, none⟩ w (by rw [cell_eq, hw, hcell_of e1]; rfl)) ?_
    rw [ext1_eq]
    refine runs_new (v := rv 72 ⟨h2.size, 0, none⟩ 150) (o := .cells #[ptr d] 72) (fun w hw => by rw [← hw]; exact ve77 _ w) fun h3 a3 => ?_
    have s3 := a3.size
    have b3 : h3[tgt]? = some (.cells #[old] 72 (0, 0)) := (a3.old tgt (by omega)).trans ((a1.old tgt lb).trans hb)
    rw [ext1_eq]
    refine runs_set b3 (fun w hw => as77.st h2.size tgt (ptr d) old w (by rw [hw]; exact a3.at_) (by rw [hw]; exact b3) rfl) fun h4 u4 => ?_
    exact hk h4 (((Fm.al a1 (Nat.le_refl _)).trans (Fm.al a3 (by omega))).trans (Fm.upd u4 (.inr rfl))) u4.same

/-! ### errors.Is -/
theorem eq_types {T T' : TypeId} {u v : Value} {c : Bool} {k : Value → Prop} (hne : T ≠ T') : Reads Tryz.prog (binS .eql 26 c (.iface T u) (.iface T' v)) h k = k (.bool false) := reads_pure fun w => by
  have := run_eql_iface_types (P := Tryz.prog) (ti := 26) T T' u v Tryz.underlying26 hne w
  simpa [binS, guardS] using this
theorem info199 : ∃ i, Tryz.prog.info? 194 = some i ∧ i.comparable = true := by
  have : (Tryz.prog.info? 194).map (·.comparable) = some true := by kernel_rfl
  obtain ⟨i, h1, h2⟩ := Option.map_eq_some_iff.1 this
  exact ⟨i, h1, h2⟩
theorem info217 : ∃ i, Tryz.prog.info? 213 = some i ∧ i.size ≠ 0 := by
  have : (Tryz.prog.info? 213).map (·.size) = some 1 := by kernel_rfl
  obtain ⟨i, h1, h2⟩ := Option.map_eq_some_iff.1 this
  exact ⟨i, h1, by omega⟩
theorem eq_sent {a b : Addr} {c : Bool} {k : Value → Prop} (ha : ∃ c t, h[a.block]? = some (.cells c t (0, 0))) (hb : ∃ c t, h[b.block]? = some (.cells c t (0, 0))) :
    Reads Tryz.prog (binS .eql 26 c (.iface 194 (.pointer (some a))) (.iface 194 (.pointer (some b)))) h k = k (.bool (decide (a = b))) := by
  obtain ⟨i, h1, h2⟩ := info199
  obtain ⟨j, h3, h4⟩ := info217
  obtain ⟨ca, ta, ha⟩ := ha
  obtain ⟨cb, tb, hb⟩ := hb
  refine reads_of fun w hw => ?_
  subst hw
  by_cases e : a = b
  · subst e
    have := run_eql_iface_ptr_same (P := Tryz.prog) w (ti := 26) a Tryz.underlying26 Tryz.underlying194 h1 h2 h3
    rw [decide_eq_true rfl]
    simpa [binS, guardS] using this
  · have := run_eql_iface_ptr_other (P := Tryz.prog) w (ti := 26) Tryz.underlying26 Tryz.underlying194 h1 h2 h3 h4 e ha hb
    rw [decide_eq_false e]
    simpa [binS, guardS] using this
/-- an error of a code and a place, in a language: is it the one of that code? -/
theorem isErr_spec {lang code pos : Nat} {e : Value} {q : Nat} {j : Nat} (gl : Gl S h) (he : IsErr S h q lang code pos e) (hj : j < 22) (h10 : j ≠ 0) (hc : codeAt code < 22) (hc10 : codeAt code ≠ 0) (hk : R (.bool (decide (codeAt code = j))) h) :
    CallsH Tryz.prog 51 #[e, S.v j] h R E := by
  obtain ⟨a, b, ha, hb, rfl, e1, e2⟩ := he
  obtain ⟨_, x, hx, _, hxo⟩ := gl.s j hj h10
  obtain ⟨_, y, hy, _, hyo⟩ := gl.s _ hc hc10
  rw [hx]
  refine C51 ?_
  unfold S51
  refine Join0.intro (fun h' => h' = h) ?_ ?_
  · rw [Tryz.eql26_s, boolV_bool, bcase_false, Tryz.eql26_s, boolV_bool, bcase_false]
  rintro h1 rfl
  rw [ext1_eq]
  refine runs_val (fun w _ => to199 _ w) ?_
  rw [meth_eq]
  refine runs_val (fun w _ => cmp199 w) ?_
  refine C66 ?_
  unfold S66
  refine Loop1.fuel (fun k v h' => h' = h1 ∧ ((k = 2 ∧ v = .iface 76 (ptr a)) ∨ (k = 1 ∧ v = .iface 72 (ptr b)) ∨ (k = 0 ∧ v = S.v (codeAt code)))) (n := 2) ⟨rfl, .inl ⟨rfl, rfl⟩⟩ ?_
  rintro _ v h2 ⟨rfl, ⟨rfl, rfl⟩ | ⟨rfl, rfl⟩ | ⟨rfl, rfl⟩⟩
  · refine Join0.intro (fun h' => h' = h2) ?_ ?_
    · rw [boolV_bool, bcase_true, eq_types (by decide), boolV_bool, bcase_false]
    rintro h3 rfl
    refine Join0.intro (fun h' => h' = h3) ?_ ?_
    · rw [tn Tryz.underlying133 (by kernel_rfl) (by kernel_rfl), reads_ext0, reads_ext1, boolV_bool, bcase_false]
    rintro h4 rfl
    rw [ta Tryz.underlying109 (by kernel_rfl), reads_ext1, reads_ext0, boolV_bool, bcase_true]
    rw [meth_eq]
    refine runs_enter (fun w _ => unw81 _ w) ?_
    refine unw170 e1 ?_
    rw [Tryz.eql26_s, boolV_bool, bcase_false]
    exact ⟨1, by omega, rfl, .inr (.inl ⟨rfl, rfl⟩)⟩
  · refine Join0.intro (fun h' => h' = h2) ?_ ?_
    · rw [boolV_bool, bcase_true, eq_types (by decide), boolV_bool, bcase_false]
    rintro h3 rfl
    refine Join0.intro (fun h' => h' = h3) ?_ ?_
    · rw [tn Tryz.underlying133 (by kernel_rfl) (by kernel_rfl), reads_ext0, reads_ext1, boolV_bool, bcase_false]
    rintro h4 rfl
    rw [ta Tryz.underlying109 (by kernel_rfl), reads_ext1, reads_ext0, boolV_bool, bcase_true]
    rw [meth_eq]
    refine runs_enter (fun w _ => unw77 _ w) ?_
    refine unw168 e2 ?_
    rw [hy, Tryz.eql26_s, boolV_bool, bcase_false]
    exact ⟨0, by omega, rfl, .inr (.inr ⟨rfl, rfl⟩)⟩
  · rw [hy]
    have hd : decide (y = x) = decide (codeAt code = j) := by
      refine decide_eq_decide.2 ⟨fun e => gl.inj _ _ hc hc10 hj h10 (by rw [hx, hy, e]), fun e => ?_⟩
      rw [e, hx] at hy
      injection hy with _ h2
      injection h2 with h2
      injection h2 with h2
      exact h2.symm
    refine Join0.intro (fun h' => h' = h2 ∧ decide (codeAt code = j) = false) ?_ ?_
    · rw [boolV_bool, bcase_true, eq_sent hyo hxo, hd, boolV_bool]
      refine bcase_of (fun hc => ?_) (fun hc => ⟨rfl, hc⟩)
      rw [hc] at hk
      exact hk
    rintro h3 ⟨rfl, hf⟩
    rw [hf] at hk
    refine Join0.intro (fun h' => h' = h3) ?_ ?_
    · rw [tn Tryz.underlying133 (by kernel_rfl) (by kernel_rfl), reads_ext0, reads_ext1, boolV_bool, bcase_false]
    rintro h4 rfl
    rw [tn Tryz.underlying109 (by kernel_rfl) (by kernel_rfl), reads_ext1, reads_ext0, boolV_bool, bcase_false, tn Tryz.underlying111 (by kernel_rfl) (by kernel_rfl), reads_ext1, reads_ext0, boolV_bool, bcase_false]
    exact hk
end Rt
end Go.Proofs
