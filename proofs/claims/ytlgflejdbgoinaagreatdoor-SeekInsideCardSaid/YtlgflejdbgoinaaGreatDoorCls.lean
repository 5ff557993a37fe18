/- A part of the proofs over this seat: Cls. -/
import Derived.Test.YtlgflejdbgoinaaGreatDoorSet2
import Derived.Test.YtlgflejdbgoinaaGreatDoorShf
set_option linter.unusedVariables false
set_option linter.unusedSimpArgs false
set_option maxRecDepth 100000
namespace Go.Proofs
open Go.Vcg Go.Extern
namespace Rt
attribute [local congr] Reads.congr ReadsS.congr pLoad.congr pLoadS.congr pStore.congr Runs.congr CallsH.congr bcase.congr boolV.congr Stable.congr pAlloc.congr
variable {S : Glb} {n : Nat} {h : Heap} {r : Nat} {R : Value → Heap → Prop} {E : List PanicEntry → Heap → Prop}

theorem cut_spec {s sep : List UInt8} (gl : Gl S h) (hs : s.length < 4294967281) (hk : R (.tuple #[str (Go.Lib.cut s sep).1, str (Go.Lib.cut s sep).2.1, .bool (Go.Lib.cut s sep).2.2]) h) : CallsH Tryz.prog 109 #[str s, str sep] h R E := by
  intro w hw
  subst hw
  obtain ⟨m, hm⟩ := gl.m
  have := Tryz.strings_Cut ⟨s.toArray⟩ ⟨sep.toArray⟩ m w (by simpa [ByteArray.size] using hs) hm
  refine Calls.mono this ?_
  rintro e w' ⟨rfl, k, rfl⟩
  exact ⟨⟨rfl, rfl, rfl⟩, hk⟩

/-! ### Classes -/
def cUpper : W4 := rangeW 65 90
def cLower : W4 := rangeW 97 122
def cDigit : W4 := rangeW 48 57
def cGraph : W4 := rangeW 33 126
def classM (l : List UInt8) : Option W4 :=
  if l = [97, 108, 110, 117, 109] then some (unionM [cDigit, cUpper, cLower])
  else if l = [97, 108, 112, 104, 97] then some (unionM [W4.zero, cUpper, cLower])
  else if l = [100, 105, 103, 105, 116] then some cDigit
  else if l = [117, 112, 112, 101, 114] then some cUpper
  else if l = [108, 111, 119, 101, 114] then some cLower
  else if l = [115, 112, 97, 99, 101] then some (unionM [rangeW 9 13, setOf [9, 32]])
  else if l = [98, 108, 97, 110, 107] then some (unionM [W4.zero, setOf [9, 32]])
  else if l = [112, 114, 105, 110, 116] then some (unionM [setOf [32], cGraph])
  else if l = [103, 114, 97, 112, 104] then some (unionM [W4.zero, cGraph])
  else if l = [112, 117, 110, 99, 116] then some (unionM [cGraph.not, cDigit, cUpper, cLower]).not
  else if l = [99, 110, 116, 114, 108] then some (unionM [rangeW 0 31, setOf [127]])
  else if l = [120, 100, 105, 103, 105, 116] then some (unionM [cDigit, rangeW 97 102, rangeW 65 70])
  else none
def classV (l : List UInt8) : Value := match classM l with
  | some s => .tuple #[.agg s.vals.toArray, .bool true]
  | none => .tuple #[.agg W4.zero.vals.toArray, .bool false]
theorem setOf_ok (l : List UInt8) : (setOf l).ok := foldl_ok l W4.zero_ok

/-- sets that lie in blocks of their own -/
def At (h : Heap) (b : Nat) (s : W4) : Prop := h[b]? = some (.cells s.vals.toArray 146 (0, 0))
theorem At.fm {b m r : Nat} {s : W4} {h' : Heap} (a : At h b s) (f : Fm m r h h') (hb : b < m) (hr : b ≠ r) : At h' b s := (f.same b hb hr).trans a
theorem putSet {b : Nat} {c : Array Value} {s : W4} {K : Heap → Prop} (hb : h[b]? = some (.cells c 146 (0, 0))) (hc : c.size = 4) (hk : ∀ h', Upd h h' b (.cells s.vals.toArray 146 (0, 0)) → K h') : pStore Tryz.prog 146 (.pointer (some ⟨b, 0, none⟩)) (.agg s.vals.toArray) h K :=
  storeFull hb Tryz.size146 hc (flat_vals s) hk
theorem getSet {b : Nat} {s : W4} {k : Value → Prop} (hb : At h b s) (hk : k (.agg s.vals.toArray)) : pLoad Tryz.prog 146 (.pointer (some ⟨b, 0, none⟩)) h k := load_all hb Tryz.agg146 hk
theorem getSetS {b : Nat} {s : W4} {St : Heap → Prop} {k : Value → Prop} (hb : ∀ h, St h → At h b s) (hk : k (.agg s.vals.toArray)) : pLoadS Tryz.prog 146 (.pointer (some ⟨b, 0, none⟩)) St k := pLoadS_all (cs := s.vals.toArray) Tryz.agg146 hb hk
/-- a union of a list that is made here -/
theorem unite {vs : List W4} {parts : Array (Nat × Value)} (hp : parts.toList = ((vs.map fun s => Value.agg s.vals.toArray).zipIdx 0).map fun x => (x.2, x.1)) (h0 : vs ≠ []) (hl : vs.length ≤ 1000) (hv : ∀ s ∈ vs, s.ok)
    (hk : ∀ h', Fm h.size h.size h h' → R (.agg (unionM vs).vals.toArray) h') : Runs Tryz.prog (vS (Instr.buildSlice 189 vs.length parts)) h (fun t h1 => CallsH Tryz.prog 104 #[t] h1 R E) E := by
  refine sets_rule hp h0 hl fun h1 a1 => ?_
  have s1 := a1.size
  refine union_spec a1.at_ hv hl fun h2 f2 => ?_
  exact hk h2 ((Fm.al a1 (Nat.le_refl _)).trans (Fm.lift f2 (by omega) (by omega)))

/-- what Class has at hand -/
structure ClsAt (h h' : Heap) (g d u w b : Nat) : Prop where
  fm : Fm h.size h.size h h'
  ag : At h' g cGraph
  ad : At h' d cDigit
  au : At h' u cUpper
  aw : At h' w cLower
  ab : ∃ c, h'[b]? = some (.cells c 146 (0, 0)) ∧ c.size = 4
  ar : ∃ c, h'[h.size]? = some (.cells c 146 (0, 0)) ∧ c.size = 4
  ne : b ≠ g ∧ b ≠ d ∧ b ≠ u ∧ b ≠ w ∧ h.size < b
theorem ClsAt.on {h1 h2 : Heap} {g d u w b : Nat} (c : ClsAt h h1 g d u w b) (f : Fm h1.size h1.size h1 h2) : ClsAt h h2 g d u w b := by
  have k : ∀ x o, h1[x]? = some o → h2[x]? = some o := fun x o e => (f.same x (at_lt e) (by have := at_lt e; omega)).trans e
  obtain ⟨c1, e1, e2⟩ := c.ab
  obtain ⟨c2, e3, e4⟩ := c.ar
  have := c.fm.size
  exact ⟨c.fm.trans (Fm.lift f (by omega) (by omega)), k _ _ c.ag, k _ _ c.ad, k _ _ c.au, k _ _ c.aw, ⟨c1, k _ _ e1, e2⟩, ⟨c2, k _ _ e3, e4⟩, c.ne⟩
theorem ClsAt.put {h1 h2 : Heap} {g d u w b : Nat} {s : W4} (c : ClsAt h h1 g d u w b) (f : Upd h1 h2 b (.cells s.vals.toArray 146 (0, 0))) : ClsAt h h2 g d u w b := by
  have k : ∀ x o, x ≠ b → h1[x]? = some o → h2[x]? = some o := fun x o hx e => (f.other x hx).trans e
  obtain ⟨n1, n2, n3, n4, n5⟩ := c.ne
  obtain ⟨c2, e3, e4⟩ := c.ar
  exact ⟨c.fm.trans (Fm.upd f (.inl (by omega))), k _ _ (Ne.symm n1) c.ag, k _ _ (Ne.symm n2) c.ad, k _ _ (Ne.symm n3) c.au, k _ _ (Ne.symm n4) c.aw, ⟨_, f.same, rfl⟩, ⟨c2, k _ _ (by omega) e3, e4⟩, c.ne⟩
theorem cls_fin {h1 : Heap} {g d u w b : Nat} {s : W4} {l : List UInt8} (c : ClsAt h h1 g d u w b) (hm : classM l = some s) (hk : ∀ h', Fm h.size h.size h h' → R (classV l) h') :
    pStore Tryz.prog 146 (.pointer (some ⟨b, 0, none⟩)) (.agg s.vals.toArray) h1 fun h15 => pLoad Tryz.prog 146 (.pointer (some ⟨b, 0, none⟩)) h15 fun t75 => pStore Tryz.prog 146 (.pointer (some ⟨h.size, 0, none⟩)) t75 h15 fun h17 => pLoad Tryz.prog 146 (.pointer (some ⟨h.size, 0, none⟩)) h17 fun r7 => R (.tuple #[r7, .bool true]) h17 := by
  obtain ⟨c1, e1, e2⟩ := c.ab
  refine putSet e1 e2 fun h2 u2 => ?_
  have c2 := c.put u2
  refine getSet u2.same ?_
  obtain ⟨c3, e3, e4⟩ := c2.ar
  refine putSet e3 e4 fun h3 u3 => ?_
  refine getSet u3.same ?_
  have := hk h3 (c2.fm.trans (Fm.upd u3 (.inl (Nat.le_refl _))))
  unfold classV at this
  rw [hm] at this
  exact this
theorem need_mono {α : Type} {o : Option α} {k k' : α → Prop} (hk : ∀ x, k x → k' x) (H : need o k) : need o k' := by
  cases o with
  | none => exact H
  | some x => exact hk x H
theorem pStore_mono {P : Program} {T : TypeId} {a x : Value} {k k' : Heap → Prop} (hk : ∀ h, k h → k' h) (H : pStore P T a x h k) : pStore P T a x h k' := by
  unfold pStore at *
  split at H
  · exact ⟨H.1, need_mono hk H.2⟩
  · exact H.elim
theorem class_spec {l : List UInt8} (hk : ∀ h', Fm h.size h.size h h' → R (classV l) h') : CallsH Tryz.prog 110 #[str l] h R E := by
  refine C110 ?_
  unfold S110
  refine alloc_rule Tryz.zero146 fun h1 a1 => ?_
  have s1 := a1.size
  refine range_spec (lo := 33) (hi := 126) fun h2 f2 => ?_
  have s2 := f2.size
  refine range_spec (lo := 48) (hi := 57) fun h3 f3 => ?_
  have s3 := f3.size
  refine alloc_rule Tryz.zero146 fun h4 a4 => alloc_rule Tryz.zero146 fun h5 a5 => ?_
  have s4 := a4.size
  have s5 := a5.size
  refine putSet (s := cGraph) ((a5.old _ (by omega)).trans a4.at_) rfl fun h6 u6 => ?_
  have s6 := u6.size
  refine putSet (s := cDigit) ((u6.other _ (by omega)).trans a5.at_) rfl fun h7 u7 => ?_
  have s7 := u7.size
  refine range_spec (lo := 65) (hi := 90) fun h8 f8 => ?_
  have s8 := f8.size
  refine range_spec (lo := 97) (hi := 122) fun h9 f9 => ?_
  have s9 := f9.size
  refine alloc_rule Tryz.zero146 fun h10 a10 => alloc_rule Tryz.zero146 fun h11 a11 => ?_
  have s10 := a10.size
  have s11 := a11.size
  refine putSet (s := cUpper) ((a11.old _ (by omega)).trans a10.at_) rfl fun h12 u12 => ?_
  have s12 := u12.size
  refine putSet (s := cLower) ((u12.other _ (by omega)).trans a11.at_) rfl fun h13 u13 => ?_
  have s13 := u13.size
  refine alloc_rule Tryz.zero146 fun h14 a14 => ?_
  have s14 := a14.size
  have f7 : Fm h.size h.size h h7 := (((((Fm.al a1 (Nat.le_refl _)).trans (Fm.lift f2 (by omega) (by omega))).trans (Fm.lift f3 (by omega) (by omega))).trans (Fm.al a4 (by omega))).trans (Fm.al a5 (by omega))).trans ((Fm.upd u6 (.inl (by omega))).trans (Fm.upd u7 (.inl (by omega))))
  have f713 : Fm h7.size h7.size h7 h13 := ((((f8.trans (Fm.lift f9 (by omega) (by omega))).trans (Fm.al a10 (by omega))).trans (Fm.al a11 (by omega))).trans (Fm.upd u12 (.inl (by omega)))).trans (Fm.upd u13 (.inl (by omega)))
  have f714 : Fm h7.size h7.size h7 h14 := f713.trans (Fm.al a14 (by omega))
  have ret1 : h7[h.size]? = some (.cells (Value.agg #[.int .u64 0, .int .u64 0, .int .u64 0, .int .u64 0]).cells 146 (0, 0)) := by
    rw [u7.other _ (by omega), u6.other _ (by omega), a5.old _ (by omega), a4.old _ (by omega), f3.same _ (by omega) (by omega), f2.same _ (by omega) (by omega)]
    exact a1.at_
  have C14 : ClsAt h h14 h3.size h4.size h9.size h10.size h13.size := by
    refine ⟨f7.trans (Fm.lift f714 (by omega) (by omega)), ?_, ?_, ?_, ?_, ⟨_, a14.at_, rfl⟩, ⟨_, (f714.same _ (by omega) (by omega)).trans ret1, rfl⟩, by omega, by omega, by omega, by omega, by omega⟩
    · exact (f714.same _ (by omega) (by omega)).trans ((u7.other _ (by omega)).trans u6.same)
    · exact (f714.same _ (by omega) (by omega)).trans u7.same
    · exact (a14.old _ (by omega)).trans ((u13.other _ (by omega)).trans u12.same)
    · exact (a14.old _ (by omega)).trans u13.same
  have b14 : At h14 h13.size W4.zero := a14.at_
  have og : cGraph.ok := rangeW_ok _ _
  have od : cDigit.ok := rangeW_ok _ _
  have ou : cUpper.ok := rangeW_ok _ _
  have ow : cLower.ok := rangeW_ok _ _
  have f14 := f714.size
  -- one more set, behind which the answer is
  have tail2 : ∀ {h' : Heap} {X Y : W4}, ClsAt h h' h3.size h4.size h9.size h10.size h13.size → X.ok → Y.ok → classM l = some (unionM [X, Y]) →
      Runs Tryz.prog (vS (Instr.buildSlice 189 2 #[(0, .agg X.vals.toArray), (1, .agg Y.vals.toArray)])) h' (fun t h'' => CallsH Tryz.prog 104 #[t] h'' (fun t56 h58 => pStore Tryz.prog 146 (.pointer (some ⟨h13.size, 0, none⟩)) t56 h58 fun h59 => pLoad Tryz.prog 146 (.pointer (some ⟨h13.size, 0, none⟩)) h59 fun t75 => pStore Tryz.prog 146 (.pointer (some ⟨h.size, 0, none⟩)) t75 h59 fun h60 => pLoad Tryz.prog 146 (.pointer (some ⟨h.size, 0, none⟩)) h60 fun r => R (.tuple #[r, .bool true]) h60) E) E := by
    intro h' X Y c hX hY hm
    refine unite (vs := [X, Y]) rfl (by simp) (by simp) (by simp [hX, hY]) fun h'' f => ?_
    exact cls_fin (c.on f) hm hk
  have tail3 : ∀ {h' : Heap} {X Y Z : W4}, ClsAt h h' h3.size h4.size h9.size h10.size h13.size → X.ok → Y.ok → Z.ok → classM l = some (unionM [X, Y, Z]) →
      Runs Tryz.prog (vS (Instr.buildSlice 189 3 #[(0, .agg X.vals.toArray), (1, .agg Y.vals.toArray), (2, .agg Z.vals.toArray)])) h' (fun t h'' => CallsH Tryz.prog 104 #[t] h'' (fun t56 h58 => pStore Tryz.prog 146 (.pointer (some ⟨h13.size, 0, none⟩)) t56 h58 fun h59 => pLoad Tryz.prog 146 (.pointer (some ⟨h13.size, 0, none⟩)) h59 fun t75 => pStore Tryz.prog 146 (.pointer (some ⟨h.size, 0, none⟩)) t75 h59 fun h60 => pLoad Tryz.prog 146 (.pointer (some ⟨h.size, 0, none⟩)) h60 fun r => R (.tuple #[r, .bool true]) h60) E) E := by
    intro h' X Y Z c hX hY hZ hm
    refine unite (vs := [X, Y, Z]) rfl (by simp) (by simp) (by simp [hX, hY, hZ]) fun h'' f => ?_
    exact cls_fin (c.on f) hm hk
  refine Join0.intro (fun h' => ∃ X, ClsAt h h' h3.size h4.size h9.size h10.size h13.size ∧ At h' h13.size X ∧ X.ok ∧ classM l = some (unionM [X, cGraph])) ?_ ?_
  · refine Join0.intro (fun h' => ∃ X, ClsAt h h' h3.size h4.size h9.size h10.size h13.size ∧ At h' h13.size X ∧ X.ok ∧ classM l = some (unionM [X, setOf [9, 32]])) ?_ ?_
    · refine Join0.intro (fun h' => ∃ X, ClsAt h h' h3.size h4.size h9.size h10.size h13.size ∧ At h' h13.size X ∧ X.ok ∧ classM l = some (unionM [X, cUpper, cLower])) ?_ ?_
      · rw [reads_seq, boolV_bool]
        refine bcase_of (fun hc => ?_) (fun n1 => ?_)
        · have hc := of_decide_eq_true hc
          refine getSet C14.ad ?_
          refine putSet a14.at_ rfl fun h15 u15 => ?_
          exact ⟨cDigit, C14.put u15, u15.same, od, by simp [classM, hc]⟩
        rw [reads_seq, boolV_bool]
        refine bcase_of (fun hc => ?_) (fun n2 => ?_)
        · have hc := of_decide_eq_true hc
          exact ⟨W4.zero, C14, b14, W4.zero_ok, by simp [classM, hc]⟩
        rw [reads_seq, boolV_bool]
        refine bcase_of (fun hc => ?_) (fun n3 => ?_)
        · have hc := of_decide_eq_true hc
          exact getSet C14.ad (cls_fin C14 (by simp [classM, hc]) hk)
        rw [reads_seq, boolV_bool]
        refine bcase_of (fun hc => ?_) (fun n4 => ?_)
        · have hc := of_decide_eq_true hc
          exact getSet C14.au (cls_fin C14 (by simp [classM, hc]) hk)
        rw [reads_seq, boolV_bool]
        refine bcase_of (fun hc => ?_) (fun n5 => ?_)
        · have hc := of_decide_eq_true hc
          exact getSet C14.aw (cls_fin C14 (by simp [classM, hc]) hk)
        rw [reads_seq, boolV_bool]
        refine bcase_of (fun hc => ?_) (fun n6 => ?_)
        · have hc := of_decide_eq_true hc
          refine range_spec (lo := 9) (hi := 13) fun h15 f15 => ?_
          have c15 := C14.on f15
          obtain ⟨cc, e1, e2⟩ := c15.ab
          refine putSet (s := rangeW 9 13) e1 e2 fun h16 u16 => ?_
          exact ⟨_, c15.put u16, u16.same, rangeW_ok _ _, by simp [classM, hc]⟩
        rw [reads_seq, boolV_bool]
        refine bcase_of (fun hc => ?_) (fun n7 => ?_)
        · have hc := of_decide_eq_true hc
          exact ⟨W4.zero, C14, b14, W4.zero_ok, by simp [classM, hc]⟩
        rw [reads_seq, boolV_bool]
        refine bcase_of (fun hc => ?_) (fun n8 => ?_)
        · have hc := of_decide_eq_true hc
          refine of_spec (by simp) fun h15 f15 => ?_
          have c15 := C14.on f15
          obtain ⟨cc, e1, e2⟩ := c15.ab
          refine putSet e1 e2 fun h16 u16 => ?_
          exact ⟨_, c15.put u16, u16.same, setOf_ok _, by simp [classM, hc]⟩
        rw [reads_seq, boolV_bool]
        refine bcase_of (fun hc => ?_) (fun n9 => ?_)
        · have hc := of_decide_eq_true hc
          exact ⟨W4.zero, C14, b14, W4.zero_ok, by simp [classM, hc]⟩
        rw [reads_seq, boolV_bool]
        refine bcase_of (fun hc => ?_) (fun n10 => ?_)
        · have hc := of_decide_eq_true hc
          refine ⟨fun h' => ClsAt h h' h3.size h4.size h9.size h10.size h13.size, C14, ?_⟩
          refine getSetS (fun h' c => c.ag) ?_
          refine getSetS (fun h' c => c.ad) ?_
          refine getSetS (fun h' c => c.au) ?_
          refine getSetS (fun h' c => c.aw) ?_
          refine ⟨not_spec og fun h15 f15 => ?_, trivial⟩
          have s15 := f15.size
          refine ⟨C14.on f15, ?_, trivial⟩
          refine sets_rule (vs := [cGraph.not, cDigit, cUpper, cLower]) rfl (by simp) (by simp) fun h16 a16 => ?_
          have s16 := a16.size
          refine ⟨trivial, ?_, trivial⟩
          refine union_spec a16.at_ (by simp [od, ou, ow, W4.not_ok]) (by simp) fun h17 f17 => ?_
          have s17 := f17.size
          refine ⟨trivial, ?_, trivial⟩
          refine not_spec (unionM_ok (by simp [od, ou, ow, W4.not_ok])) fun h18 f18 => ?_
          refine ⟨trivial, ?_, trivial⟩
          have f1418 : Fm h14.size h14.size h14 h18 := ((f15.trans (Fm.al a16 (by omega))).trans (Fm.lift f17 (by omega) (by omega))).trans (Fm.lift f18 (by omega) (by omega))
          have := cls_fin (R := R) (C14.on f1418) (s := (unionM [cGraph.not, cDigit, cUpper, cLower]).not) (l := l) (by simp [classM, hc]) hk
          exact pStore_mono (fun h' x => ⟨trivial, x⟩) this
        rw [reads_seq, boolV_bool]
        refine bcase_of (fun hc => ?_) (fun n11 => ?_)
        · have hc := of_decide_eq_true hc
          refine range_spec (lo := 0) (hi := 31) fun h15 f15 => ?_
          have s15 := f15.size
          refine of_spec (by simp) fun h16 f16 => ?_
          exact tail2 ((C14.on f15).on f16) (rangeW_ok _ _) (setOf_ok _) (by simp [classM, hc])
        rw [reads_seq, boolV_bool]
        refine bcase_of (fun hc => ?_) (fun n12 => ?_)
        · have hc := of_decide_eq_true hc
          refine ⟨fun h' => ClsAt h h' h3.size h4.size h9.size h10.size h13.size, C14, ?_⟩
          refine getSetS (fun h' c => c.ad) ?_
          refine ⟨range_spec (lo := 97) (hi := 102) fun h15 f15 => ?_, trivial⟩
          have s15 := f15.size
          refine ⟨C14.on f15, ?_, trivial⟩
          refine range_spec (lo := 65) (hi := 70) fun h16 f16 => ?_
          have s16 := f16.size
          refine ⟨(C14.on f15).on f16, ?_, trivial⟩
          refine sets_rule (vs := [cDigit, rangeW 97 102, rangeW 65 70]) rfl (by simp) (by simp) fun h17 a17 => ?_
          have s17 := a17.size
          refine ⟨trivial, ?_, trivial⟩
          refine union_spec a17.at_ (by simp [od, rangeW_ok]) (by simp) fun h18 f18 => ?_
          refine ⟨trivial, ?_, trivial⟩
          have f1418 : Fm h14.size h14.size h14 h18 := ((f15.trans (Fm.lift f16 (by omega) (by omega))).trans (Fm.al a17 (by omega))).trans (Fm.lift f18 (by omega) (by omega))
          have := cls_fin (R := R) (C14.on f1418) (s := unionM [cDigit, rangeW 97 102, rangeW 65 70]) (l := l) (by simp [classM, hc]) hk
          exact pStore_mono (fun h' x => ⟨trivial, x⟩) this
        · rw [Tryz.bd146]
          obtain ⟨cc, e1, e2⟩ := C14.ar
          refine putSet (s := W4.zero) e1 e2 fun h15 u15 => ?_
          refine getSet u15.same ?_
          have := hk h15 (C14.fm.trans (Fm.upd u15 (.inl (Nat.le_refl _))))
          have hm : classM l = none := by
            have q := @of_decide_eq_false
            simp [classM, of_decide_eq_false n1, of_decide_eq_false n2, of_decide_eq_false n3, of_decide_eq_false n4, of_decide_eq_false n5, of_decide_eq_false n6, of_decide_eq_false n7, of_decide_eq_false n8, of_decide_eq_false n9, of_decide_eq_false n10, of_decide_eq_false n11, of_decide_eq_false n12]
          unfold classV at this
          rw [hm] at this
          exact this
      · rintro h' ⟨X, c, aX, oX, hm⟩
        refine getSet aX ?_
        refine getSet c.au ?_
        refine getSet c.aw ?_
        exact tail3 c oX ou ow hm
    · rintro h' ⟨X, c, aX, oX, hm⟩
      refine ⟨fun h'' => ClsAt h h'' h3.size h4.size h9.size h10.size h13.size ∧ At h'' h13.size X, ⟨c, aX⟩, ?_⟩
      refine getSetS (fun h' c => c.2) ?_
      refine ⟨of_spec (by simp) fun h15 f15 => ?_, trivial⟩
      have s15 := f15.size
      have c15 := c.on f15
      refine ⟨⟨c15, (f15.same _ (at_lt aX) (by have := at_lt aX; omega)).trans aX⟩, ?_, trivial⟩
      refine sets_rule (vs := [X, setOf [9, 32]]) rfl (by simp) (by simp) fun h16 a16 => ?_
      have s16 := a16.size
      refine ⟨trivial, ?_, trivial⟩
      refine union_spec a16.at_ (by simp [oX, setOf_ok]) (by simp) fun h17 f17 => ?_
      refine ⟨trivial, ?_, trivial⟩
      have := cls_fin (R := R) (c15.on ((Fm.al a16 (Nat.le_refl _)).trans (Fm.lift f17 (by omega) (by omega)))) hm hk
      exact pStore_mono (fun h' x => ⟨trivial, x⟩) this
  · rintro h' ⟨X, c, aX, oX, hm⟩
    refine getSet aX ?_
    refine getSet c.ag ?_
    exact tail2 c oX og hm
end Rt
end Go.Proofs
