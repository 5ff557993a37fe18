/- A part of the proofs over this seat: SkT. -/
import Derived.Test.YtlgflejdbgoinaaGreatDoorAsw
import Derived.Test.YtlgflejdbgoinaaGreatDoorBld
set_option linter.unusedVariables false
set_option linter.unusedSimpArgs false
set_option maxRecDepth 100000
namespace Go.Proofs
open Go.Vcg Go.Extern
namespace Rt
attribute [local congr] Reads.congr ReadsS.congr pLoad.congr pLoadS.congr pStore.congr Runs.congr CallsH.congr bcase.congr boolV.congr Stable.congr pAlloc.congr
variable {S : Glb} {n : Nat} {h : Heap} {r : Nat} {R : Value → Heap → Prop} {E : List PanicEntry → Heap → Prop}

theorem more_spec {code : Nat} (g : Gl S h) (h1 : 11 ≤ code) (h2 : code ≤ 21) (hk : R (S.v (codeAt code)) h) : CallsH Tryz.prog 54 #[.int .i64 code] h R E := by
  refine C54 ?_
  unfold S54
  have hg : ∀ i, i < 22 → i ≠ 0 → hcell h ⟨i, 0, none⟩ = some (S.v i) := fun i a b => (g.s i a b).1
  rcases (by omega : code = 11 ∨ code = 12 ∨ code = 13 ∨ code = 14 ∨ code = 15 ∨ code = 16 ∨ code = 17 ∨ code = 18 ∨ code = 19 ∨ code = 20 ∨ code = 21) with rfl | rfl | rfl | rfl | rfl | rfl | rfl | rfl | rfl | rfl | rfl <;>
  · simp only [boolV_bool, bcase_true, bcase_false, need, reads_eq, pLoad, Tryz.agg26, reads_eq]
    simp [hg, bcase]
    exact hk
theorem of_all {code : Nat} (g : Gl S h) (h1 : 1 ≤ code) (h2 : code ≤ 21) (hk : R (S.v (codeAt code)) h) : CallsH Tryz.prog 38 #[.int .i64 code] h R E := by
  by_cases h10 : code ≤ 10
  · exact of27_spec g h1 h10 hk
  · refine C38 ?_
    unfold S38
    have hne : ∀ (j : Nat), j ≤ 10 → decide ((code : Int) = (j : Int)) = false := fun j hj => decide_eq_false (by omega)
    simp only [boolV_bool, bcase_true, bcase_false, need, reads_eq, Tryz.agg26, reads_eq]
    simp only [show ((1 : Int)) = ((1 : Nat) : Int) from rfl, show ((2 : Int)) = ((2 : Nat) : Int) from rfl, show ((3 : Int)) = ((3 : Nat) : Int) from rfl, show ((4 : Int)) = ((4 : Nat) : Int) from rfl, show ((5 : Int)) = ((5 : Nat) : Int) from rfl,
      show ((6 : Int)) = ((6 : Nat) : Int) from rfl, show ((7 : Int)) = ((7 : Nat) : Int) from rfl, show ((8 : Int)) = ((8 : Nat) : Int) from rfl, show ((9 : Int)) = ((9 : Nat) : Int) from rfl, show ((10 : Int)) = ((10 : Nat) : Int) from rfl]
    rw [hne 1 (by omega), hne 2 (by omega), hne 3 (by omega), hne 4 (by omega), hne 5 (by omega), hne 6 (by omega), hne 7 (by omega), hne 8 (by omega), hne 9 (by omega), hne 10 (by omega)]
    simp only [boolV_bool, bcase_false]
    exact more_spec g (by omega) h2 hk
theorem codeAt_lt {c : Nat} (h1 : 1 ≤ c) (h2 : c ≤ 21) : codeAt c < 22 ∧ codeAt c ≠ 0 := by unfold codeAt; omega
theorem codeAt_inj {c d : Nat} (h1 : 1 ≤ c) (h2 : 1 ≤ d) (h : codeAt c = codeAt d) : c = d := h
theorem fIs_spec {lang code pos q j : Nat} {e : Value} (gl : Gl S h) (he : IsErr S h q lang code pos e) (hc1 : 1 ≤ code) (hc2 : code ≤ 21) (hj1 : 1 ≤ j) (hj2 : j ≤ 21) (hk : R (.bool (decide (code = j))) h) : CallsH Tryz.prog 31 #[e, .int .i64 j] h R E := by
  refine C31 ?_
  unfold S31
  refine of_all gl hj1 hj2 ?_
  have he' := he
  obtain ⟨a, b, ha, hb, rfl, e1, e2⟩ := he'
  obtain ⟨_, x, hx, _, _⟩ := gl.s _ (codeAt_lt hj1 hj2).1 (codeAt_lt hj1 hj2).2
  rw [Tryz.neq26_s, boolV_bool, bcase_true]
  have : Reads Tryz.prog (binS .neq 26 true (S.v (codeAt j)) .nilIface) h = fun k => k (.bool true) := by
    funext k; rw [hx, Tryz.neq26_s]
  rw [this]
  simp only [boolV_bool, bcase_true]
  refine isErr_spec gl he (codeAt_lt hj1 hj2).1 (codeAt_lt hj1 hj2).2 (codeAt_lt hc1 hc2).1 (codeAt_lt hc1 hc2).2 ?_
  have : decide (codeAt code = codeAt j) = decide (code = j) := decide_eq_decide.2 ⟨fun e => codeAt_inj hc1 hj1 e, fun e => by rw [e]⟩
  rw [this]
  exact hk
def faultV (code pos lang : Nat) : Value := .agg #[.int .i64 code, .int .i64 pos, .int .i64 lang]
theorem flat3 {a b c : Int} : ∀ v ∈ (#[Value.int .i64 a, .int .i64 b, .int .i64 c] : Array Value).toList, flat v = true := by
  intro v hv
  simp at hv
  rcases hv with rfl | rfl | rfl <;> rfl
theorem tell_nil (hk : ∀ h', Fm h.size h.size h h' → R (faultV 0 0 0) h') : CallsH Tryz.prog 16 #[.nilIface] h R E := by
  refine C16 ?_
  unfold S16
  refine alloc_rule Tryz.zero42 fun h1 a1 => ?_
  rw [Tryz.eql26_n, boolV_bool, bcase_true, Tryz.bd42]
  refine ret_full a1.at_ Tryz.size42 Tryz.agg42 rfl flat3 fun h2 u2 => ?_
  exact hk h2 ((Fm.al a1 (Nat.le_refl _)).trans (Fm.upd u2 (.inl (Nat.le_refl _))))
theorem tell_spec {lang code pos q : Nat} {e : Value} (gl : Gl S h) (hn : S.N ≤ h.size) (he : IsErr S h q lang code pos e) (hc1 : 1 ≤ code) (hc2 : code ≤ 21)
    (hk : ∀ h', Fm h.size h.size h h' → R (faultV code pos lang) h') : CallsH Tryz.prog 16 #[e] h R E := by
  obtain ⟨a, b, ha, hb, rfl, e1, e2⟩ := he
  have la := at_lt e1
  have lb := at_lt e2
  refine C16 ?_
  unfold S16
  refine alloc_rule Tryz.zero42 fun h1 a1 => ?_
  have s1 := a1.size
  rw [Tryz.eql26_s, boolV_bool, bcase_false, Tryz.bd42_0]
  refine alloc_rule Tryz.zero42 fun h2 a2 => ?_
  have s2 := a2.size
  refine storeFull a2.at_ (xs := #[.int .i64 22, .int .i64 0, .int .i64 0]) Tryz.size42 rfl flat3 fun h3 u3 => ?_
  have s3 := u3.size
  have f3 : Fm h.size h.size h h3 := ((Fm.al a1 (Nat.le_refl _)).trans (Fm.al a2 (by omega))).trans (Fm.upd u3 (.inl (by omega)))
  have r3 : h3[h.size]? = some (.cells (Value.agg #[.int .i64 0, .int .i64 0, .int .i64 0]).cells 42 (0, 0)) := (u3.other _ (by omega)).trans ((a2.old _ (by omega)).trans a1.at_)
  refine Loop1.fuel (fun k v h' => ∃ c : Nat, v = .int .i64 c ∧ c ≤ 21 ∧ k = c ∧ Fm h.size h.size h h' ∧ h'.size = h3.size ∧ h'[h.size]? = h3[h.size]? ∧ h'[h1.size]? = some (.cells #[.int .i64 (if c < code then (code : Int) else 22), .int .i64 0, .int .i64 0] 42 (0, 0))) (n := 21)
    ⟨21, rfl, by omega, rfl, f3, rfl, rfl, by rw [u3.same, if_neg (by omega)]⟩ fun k v h4 hi => ?_
  obtain ⟨c, rfl, hc, rfl, f4, s4, r4, b4⟩ := hi
  rw [reads_ge, boolV_bool]
  refine bcase_of (fun hc' => ?_) (fun hc' => ?_)
  · have hcp : 1 ≤ k := by have := of_decide_eq_true hc'; omega
    have he4 : IsErr S h4 0 lang code pos (.iface 76 (ptr a)) := ⟨a, b, by omega, by omega, rfl, (f4.same a la (by omega)).trans e1, (f4.same b lb (by omega)).trans e2⟩
    refine fIs_spec (gl.fm f4 hn hn) he4 hc1 hc2 hcp hc ?_
    rw [boolV_bool]
    refine bcase_of (fun hd => ?_) (fun hd => ?_)
    · have hd : code = k := of_decide_eq_true hd
      rw [Tryz.fa42_0, addr_add]
      refine store1 b4 Tryz.size3 rfl (by simp) fun h5 u5 => ?_
      have s5 := u5.size
      rw [reads_sub, wrap_s1 _ hcp (by omega)]
      refine ⟨k - 1, by omega, k - 1, rfl, by omega, rfl, f4.trans (Fm.upd u5 (.inl (by omega))), by omega, (u5.other _ (by omega)).trans r4, ?_⟩
      rw [u5.same, hd, if_pos (show k - 1 < k by omega)]
      rfl
    · have hd : code ≠ k := of_decide_eq_false hd
      rw [reads_sub, wrap_s1 _ hcp (by omega)]
      refine ⟨k - 1, by omega, k - 1, rfl, by omega, rfl, f4, s4, r4, ?_⟩
      rw [b4]
      by_cases hlt : k < code
      · rw [if_pos hlt, if_pos (by omega)]
      · rw [if_neg hlt, if_neg (by omega)]
  · have hc0 : k = 0 := by have := of_decide_eq_false hc'; omega
    subst hc0
    rw [if_pos (by omega)] at b4
    refine alloc_rule Tryz.zero72 fun h5 a5 => ?_
    have s5 := a5.size
    have f5 : Fm h.size h.size h h5 := f4.trans (Fm.al a5 (by omega))
    have b5 := (a5.old _ (at_lt b4)).trans b4
    have r5 := (a5.old h.size (by omega)).trans (r4.trans r3)
    refine Join0.intro (fun h' => Fm h.size h.size h h' ∧ h5.size ≤ h'.size ∧ h'[h.size]? = h5[h.size]? ∧ h'[h1.size]? = some (.cells #[.int .i64 code, .int .i64 pos, .int .i64 0] 42 (0, 0))) ?_ ?_
    · rw [reads_mkiface Tryz.underlying73 (by simp)]
      have c5 : h5[a]? = some (.cells #[.iface 72 (ptr b), .int .i64 lang] 79 (0, 0)) := (f5.same a la (by omega)).trans e1
      refine as_front as77 a5.at_ (gl.fm f5 hn hn) (by omega) fun h6 x f6 hx6 b6 => ?_
      have s6 := f6.size
      refine as_placed ((f6.same h4.size (by omega) (by omega)).trans a5.at_) b6 ((f6.same a (by omega) (by omega)).trans c5) fun h7 f7 b7 => ?_
      have s7 := f7.size
      rw [boolV_bool, bcase_true]
      rw [pLoad_one (v := ptr b) Tryz.agg72 (by rw [hcell_of b7]; rfl), reads_nil, Tryz.fa75_1, addr_add, Nat.zero_add]
      have f57 : Fm h5.size h4.size h5 h7 := Fm.trans (h' := h6) ⟨f6.size, fun k hk _ => f6.same k hk (by omega)⟩ (f7.less (by omega))
      have d7 : h7[b]? = some (.cells #[S.v (codeAt code), .int .i64 pos] 75 (0, 0)) := (f57.same b (by omega) (by omega)).trans ((f5.same b lb (by omega)).trans e2)
      rw [pLoad_one (v := .int .i64 pos) Tryz.agg3 (by rw [hcell_of d7]; rfl), Tryz.fa42_1, addr_add, Nat.zero_add]
      refine store1 ((f57.same h1.size (by omega) (by omega)).trans b5) Tryz.size3 rfl (by simp) fun h8 u8 => ?_
      have s8 := u8.size
      refine ⟨f5.trans (Fm.trans (h' := h7) ⟨by omega, fun k hk hk' => f57.same k (by omega) (by omega)⟩ (Fm.upd u8 (.inl (by omega)))), by omega, (u8.other _ (by omega)).trans (f57.same _ (by omega) (by omega)), ?_⟩
      rw [u8.same]
      rfl
    rintro h6 ⟨f6, s6, r6, b6⟩
    refine alloc_rule Tryz.zero76 fun h7 a7 => ?_
    have s7 := a7.size
    have f7 : Fm h.size h.size h h7 := f6.trans (Fm.al a7 (by omega))
    have b7 := (a7.old _ (at_lt b6)).trans b6
    rw [reads_mkiface Tryz.underlying77 (by simp)]
    have c7 : h7[a]? = some (.cells #[.iface 72 (ptr b), .int .i64 lang] 79 (0, 0)) := (f7.same a la (by omega)).trans e1
    refine as_front as81 a7.at_ (gl.fm f7 hn hn) (by omega) fun h8 x f8 hx8 b8 => ?_
    have s8 := f8.size
    refine as_hit as81 (x := ptr a) ((f8.same h6.size (by omega) (by omega)).trans a7.at_) b8 (to81 _) (ve81 _) rfl fun h9 f9 b9 => ?_
    have s9 := f9.size
    rw [boolV_bool, bcase_true]
    rw [pLoad_one (v := ptr a) Tryz.agg76 (by rw [hcell_of b9]; rfl), reads_nil, Tryz.fa79_1, addr_add, Nat.zero_add]
    have f79 : Fm h7.size h6.size h7 h9 := Fm.trans (h' := h8) ⟨f8.size, fun k hk _ => f8.same k hk (by omega)⟩ (f9.less (by omega))
    rw [pLoad_one (v := .int .i64 lang) Tryz.agg3 (by rw [hcell_of ((f79.same a (by omega) (by omega)).trans c7)]; rfl), Tryz.fa42_2, addr_add, Nat.zero_add]
    refine store1 ((f79.same h1.size (by omega) (by omega)).trans b7) Tryz.size3 rfl (by simp) fun h10 u10 => ?_
    have s10 := u10.size
    refine load_all u10.same Tryz.agg42 ?_
    have r10 : h10[h.size]? = some (.cells (Value.agg #[.int .i64 0, .int .i64 0, .int .i64 0]).cells 42 (0, 0)) := (u10.other _ (by omega)).trans ((f79.same _ (by omega) (by omega)).trans ((a7.old _ (by omega)).trans (r6.trans r5)))
    refine ret_full r10 Tryz.size42 Tryz.agg42 rfl flat3 fun h11 u11 => ?_
    exact hk h11 ((f7.trans (Fm.trans (h' := h9) ⟨by omega, fun k hk hk' => f79.same k (by omega) (by omega)⟩ (Fm.upd u10 (.inl (by omega))))).trans (Fm.upd u11 (.inl (Nat.le_refl _))))
end Rt
end Go.Proofs

set_option maxRecDepth 100000
namespace Go.Proofs
open Go.Vcg
namespace Rt
attribute [local congr] Reads.congr ReadsS.congr pLoad.congr pLoadS.congr pStore.congr Runs.congr CallsH.congr bcase.congr boolV.congr Stable.congr pAlloc.congr
variable {S : Glb} {n : Nat} {h : Heap} {r : Nat} {R : Value → Heap → Prop} {E : List PanicEntry → Heap → Prop}

abbrev Op := List UInt8
theorem size9' : sizeT Tryz.prog 9 = some 1 := by kernel_rfl
/-! ### Rows of strings -/
def IsStrs (h : Heap) (Q : Nat → Prop) (l : List Op) (v : Value) : Prop :=
  (l = [] ∧ v = .slice none 0 0) ∨ ∃ b cap cur, Q b ∧ v = .slice (some ⟨b, 0, none⟩) l.length cap ∧ l.length ≤ cap ∧ h[b]? = some (.cells cur 9 (0, 0)) ∧ cur.toList.take l.length = l.map str
/-- a slice of strings that reads as l -/
def IsOps (h : Heap) (v : Value) (l : List Op) : Prop :=
  (v = .slice none 0 0 ∧ l = []) ∨ ∃ b o c, v = .slice (some ⟨b, o, none⟩) l.length c ∧ l.length ≤ c ∧ b < h.size ∧ ∀ i (hi : i < l.length), hcell h ⟨b, o + i, none⟩ = some (str l[i])
theorem IsOps.frame {h' : Heap} {v : Value} {l : List Op} (hb : IsOps h v l) (hs : h.size ≤ h'.size) (hk : ∀ b o c, v = .slice (some ⟨b, o, none⟩) l.length c → b < h.size → h'[b]? = h[b]?) : IsOps h' v l := by
  rcases hb with hb | ⟨b, o, c, hv, hc, hlt, hat⟩
  · exact .inl hb
  · refine .inr ⟨b, o, c, hv, hc, by omega, fun i hi => ?_⟩
    have e := hat i hi
    unfold hcell at e ⊢
    rw [hk b o c hv hlt]
    exact e
theorem IsStrs.frame {h' : Heap} {Q Q' : Nat → Prop} {l : List Op} {v : Value} (hq : ∀ b, Q b → b < h.size → Q' b ∧ h'[b]? = h[b]?) (hr : IsStrs h Q l v) : IsStrs h' Q' l v := by
  refine hr.imp id ?_
  rintro ⟨b, cap, cur, hQ, e1, e2, e3, e4⟩
  obtain ⟨q', e⟩ := hq b hQ (at_lt e3)
  exact ⟨b, cap, cur, q', e1, e2, e.trans e3, e4⟩
theorem IsStrs.flat {Q : Nat → Prop} {l : List Op} {v : Value} (hr : IsStrs h Q l v) : flat v = true := by
  rcases hr with ⟨_, rfl⟩ | ⟨_, _, _, _, rfl, _⟩ <;> rfl
theorem IsStrs.nil {Q : Nat → Prop} : IsStrs h Q [] (.slice none 0 0) := .inl ⟨rfl, rfl⟩
theorem IsStrs.is {Q : Nat → Prop} {l : List Op} {v : Value} (hr : IsStrs h Q l v) : IsOps h v l := by
  rcases hr with ⟨rfl, rfl⟩ | ⟨b, cap, cur, hQ, rfl, e2, e3, e4⟩
  · exact .inl ⟨rfl, rfl⟩
  · refine .inr ⟨b, 0, cap, rfl, e2, at_lt e3, fun i hi => ?_⟩
    rw [hcell_of e3, Nat.zero_add]
    have h1 : (cur.toList.take l.length)[i]? = (l.map str)[i]? := by rw [e4]
    rw [List.getElem?_take_of_lt hi] at h1
    rw [← Array.getElem?_toList, h1]
    simp [hi]
theorem reads_olen {v : Value} {l : List Op} (hb : IsOps h v l) {k : Value → Prop} : Reads Tryz.prog (builtinS .len #[22] 3 #[v]) h k = k (.int .i64 l.length) := by
  rcases hb with ⟨rfl, rfl⟩ | ⟨b, o, c, rfl, _, _⟩
  · exact reads_pure fun _ => by simp [builtinS, Builtin.len_, Go.underlying, program, Sem.run, Tryz.underlying22, goInt]
  · exact reads_pure fun _ => by simp [builtinS, Builtin.len_, Go.underlying, program, Sem.run, Tryz.underlying22, goInt]
theorem ops_load {v : Value} {l : List Op} {i : Nat} (hb : IsOps h v l) (hi : i < l.length) {k : Value → Prop} (hk : k (str l[i])) :
    Reads Tryz.prog (Instr.indexAt 22 v (.int .i64 i)) h fun t => pLoad Tryz.prog 9 t h k := by
  rcases hb with ⟨rfl, rfl⟩ | ⟨b, o, c, rfl, _, _, hat⟩
  · exact absurd hi (by simp)
  · rw [reads_idxRow Tryz.underlying22 size9' hi, addr_add, Nat.mul_one, pLoad_one Tryz.agg9 (hat i hi)]
    exact hk

/-! ### Trees -/
inductive U where
  | node (kind : Nat) (text : Op) (sign num : Int) (bytes : Bool) (args : List Op) (kids : List U)
def skL (kind : Nat) (text : Op) (sign num : Int) (bytes : Bool) (av kv : Value) : List Value := [.int .i64 kind, str text, .int .i64 sign, .int .i64 num, .bool bytes, av, kv]
mutual
def IsSk (h : Heap) (Q : Nat → Prop) : U → List Value → Prop
  | .node k tx sg nm by_ args ts, vs => ∃ av kv, vs = skL k tx sg nm by_ av kv ∧ IsStrs h Q args av ∧ ((ts = [] ∧ kv = .slice none 0 0) ∨
      ∃ b cap cur, Q b ∧ kv = .slice (some ⟨b, 0, none⟩) ts.length cap ∧ ts.length ≤ cap ∧ ts.length * 7 ≤ cur.size ∧ h[b]? = some (.cells cur 40 (0, 0)) ∧ IsKids h Q ts (cur.toList.take (ts.length * 7)))
def IsKids (h : Heap) (Q : Nat → Prop) : List U → List Value → Prop
  | [], vs => vs = []
  | t :: ts, vs => ∃ v vs', vs = v ++ vs' ∧ IsSk h Q t v ∧ IsKids h Q ts vs'
end

mutual
theorem IsSk.frame {h h' : Heap} {Q Q' : Nat → Prop} (hq : ∀ b, Q b → b < h.size → Q' b ∧ h'[b]? = h[b]?) : ∀ {t : U} {vs : List Value}, IsSk h Q t vs → IsSk h' Q' t vs
  | .node k tx sg nm by_ args ts, vs, hr => by
    simp only [IsSk] at hr ⊢
    obtain ⟨av, kv, h1, h0, h2⟩ := hr
    refine ⟨av, kv, h1, h0.frame hq, h2.imp id ?_⟩
    rintro ⟨b, cap, cur, hQ, e1, e2, e3, e4, e5⟩
    obtain ⟨q', e⟩ := hq b hQ (at_lt e4)
    exact ⟨b, cap, cur, q', e1, e2, e3, e.trans e4, IsKids.frame hq e5⟩
theorem IsKids.frame {h h' : Heap} {Q Q' : Nat → Prop} (hq : ∀ b, Q b → b < h.size → Q' b ∧ h'[b]? = h[b]?) : ∀ {ts : List U} {vs : List Value}, IsKids h Q ts vs → IsKids h' Q' ts vs
  | [], vs, hr => by simpa only [IsKids] using hr
  | t :: ts, vs, hr => by
    simp only [IsKids] at hr ⊢
    obtain ⟨v, vs', h1, h2, h3⟩ := hr
    exact ⟨v, vs', h1, IsSk.frame hq h2, IsKids.frame hq h3⟩
end
theorem IsSk.len {Q : Nat → Prop} {t : U} {vs : List Value} (hr : IsSk h Q t vs) : vs.length = 7 := by
  cases t
  simp only [IsSk] at hr
  obtain ⟨av, kv, rfl, _⟩ := hr
  rfl
theorem IsSk.flat {Q : Nat → Prop} {t : U} {vs : List Value} (hr : IsSk h Q t vs) : ∀ v ∈ vs, flat v = true := by
  cases t
  simp only [IsSk] at hr
  obtain ⟨av, kv, rfl, ha, hk⟩ := hr
  have h1 : Go.Vcg.flat kv = true := by
    rcases hk with ⟨_, rfl⟩ | ⟨_, _, _, _, rfl, _⟩ <;> rfl
  have h2 := ha.flat
  intro v hv
  simp only [skL, List.mem_cons, List.not_mem_nil, or_false] at hv
  rcases hv with rfl | rfl | rfl | rfl | rfl | rfl | rfl <;> first | rfl | exact h1 | exact h2
theorem IsKids.len {Q : Nat → Prop} : ∀ {ts : List U} {vs : List Value}, IsKids h Q ts vs → vs.length = ts.length * 7
  | [], vs, hr => by simp only [IsKids] at hr; simp [hr]
  | t :: ts, vs, hr => by
    simp only [IsKids] at hr
    obtain ⟨v, vs', rfl, h1, h2⟩ := hr
    simp [h1.len, h2.len]; omega
theorem IsKids.snoc {Q : Nat → Prop} {t : U} {v : List Value} (ht : IsSk h Q t v) : ∀ {ts : List U} {vs : List Value}, IsKids h Q ts vs → IsKids h Q (ts ++ [t]) (vs ++ v)
  | [], vs, hr => by
    simp only [IsKids] at hr
    subst hr
    simp only [List.nil_append, IsKids]
    exact ⟨v, [], by simp, ht, rfl⟩
  | u :: ts, vs, hr => by
    simp only [IsKids] at hr
    obtain ⟨x, vs', rfl, h1, h2⟩ := hr
    simp only [List.cons_append, IsKids]
    exact ⟨x, vs' ++ v, by simp, h1, IsKids.snoc ht h2⟩
theorem IsKids.one {Q : Nat → Prop} {t : U} {v : List Value} : IsKids h Q [t] v ↔ IsSk h Q t v := by
  simp only [IsKids]
  constructor
  · rintro ⟨a, b, rfl, h1, rfl⟩; simpa using h1
  · intro h1; exact ⟨v, [], by simp, h1, rfl⟩
theorem IsKids.two {Q : Nat → Prop} {t u : U} {v w : List Value} (ht : IsSk h Q t v) (hu : IsSk h Q u w) : IsKids h Q [t, u] (v ++ w) := by
  simp only [IsKids]
  exact ⟨v, w, rfl, ht, w, [], by simp, hu, rfl⟩
theorem IsKids.get {Q : Nat → Prop} : ∀ {ts : List U} {vs : List Value}, IsKids h Q ts vs → ∀ i (hi : i < ts.length), IsSk h Q ts[i] ((vs.drop (i * 7)).take 7)
  | [], _, _, i, hi => absurd hi (by simp)
  | t :: ts, vs, hr, i, hi => by
    simp only [IsKids] at hr
    obtain ⟨v, vs', rfl, h1, h2⟩ := hr
    have hl := h1.len
    cases i with
    | zero =>
      rw [Nat.zero_mul, List.drop_zero, List.take_append_of_le_length (by omega), List.take_of_length_le (by omega)]
      exact h1
    | succ i =>
      have h3 := h2.get i (by simpa using hi)
      have e : (i + 1) * 7 = v.length + i * 7 := by omega
      rw [e, List.drop_append, List.drop_of_length_le (by omega), List.nil_append, Nat.add_sub_cancel_left]
      exact h3
/-- what has neither operands nor kids -/
def leafU (kind : Nat) (text : Op) (sign num : Int) (bytes : Bool) : U := .node kind text sign num bytes [] []
theorem IsSk.leaf {Q : Nat → Prop} {k : Nat} {tx : Op} {sg nm : Int} {b : Bool} : IsSk h Q (leafU k tx sg nm b) (skL k tx sg nm b (.slice none 0 0) (.slice none 0 0)) := by
  simp only [leafU, IsSk]
  exact ⟨_, _, rfl, .nil, .inl ⟨by simp, rfl⟩⟩
theorem flat_skL {k : Nat} {tx : Op} {sg nm : Int} {b : Bool} {av kv : Value} (ha : flat av = true) (hk : flat kv = true) : ∀ v ∈ (skL k tx sg nm b av kv).toArray.toList, flat v = true := by
  intro v hv
  simp only [skL, List.mem_cons, List.not_mem_nil, or_false] at hv
  rcases hv with rfl | rfl | rfl | rfl | rfl | rfl | rfl <;> first | rfl | exact ha | exact hk

/-! ### Rows of two -/
theorem slice2_rule {t e : TypeId} {z x y : Value} {size bytes : Nat} {K : Value → Heap → Prop} (hi : InfoT Tryz.prog e z size bytes) (ht : Tryz.prog.underlying t = some (.slice e)) (hx : x.cells.size = size ∧ y.cells.size = size) (hs0 : 0 < size) (hs : size ≤ 1000) (hz' : z.cells.size = size)
    (hk : ∀ h', Al h h' (.cells (x.cells ++ y.cells) e (0, 0)) → K (.slice (some ⟨h.size, 0, none⟩) 2 2) h') :
    Runs Tryz.prog (vS (Instr.buildSlice t 2 #[(0, x), (1, y)])) h K E := by
  intro w hw
  subst hw
  obtain ⟨i, hi, hz, hsz, _⟩ := hi
  have hf := Go.Great.fill_whole (s := size) hs0 [x, y] ((Array.range (2 * size)).map (z.cells[· % z.cells.size]!)) (by
    intro v hv
    rcases List.mem_cons.1 hv with rfl | hv
    · exact hx.1
    · rw [List.mem_singleton.1 hv]; exact hx.2) (by simp)
  have e := run_buildSlice (P := Tryz.prog) w t e 2 #[(0, x), (1, y)] _ i _ ht hi hz (by rw [hsz]; omega) (by rw [hsz]; omega) (by rw [hsz]; exact hf)
  have er : (([x, y].flatMap fun v => v.cells.toList).toArray) = x.cells ++ y.cells := by
    apply Array.ext'
    simp
  rw [er] at e
  simp only [vS, Sem.run_bind, e, Result.andThen_ok, Sem.run_pure, uponH]
  exact ⟨⟨rfl, rfl, rfl⟩, hk _ (Al.push ..)⟩

/-- one that has one -/
theorem IsSk.kid {b : Nat} {Q : Nat → Prop} {t : U} {vs : List Value} {k : Nat} (hb : h[b]? = some (.cells vs.toArray 40 (0, 0))) (hq : Q b) (ht : IsSk h Q t vs) :
    IsSk h Q (.node k [] 0 0 false [] [t]) (skL k [] 0 0 false (.slice none 0 0) (.slice (some ⟨b, 0, none⟩) 1 1)) := by
  simp only [IsSk]
  refine ⟨_, _, rfl, .nil, .inr ⟨b, 1, vs.toArray, hq, rfl, by simp, by simp [ht.len], hb, ?_⟩⟩
  rw [IsKids.one]
  simpa [← ht.len] using ht
theorem IsSk.kid2 {b : Nat} {Q : Nat → Prop} {t u : U} {vs ws : List Value} {k : Nat} (hb : h[b]? = some (.cells (vs ++ ws).toArray 40 (0, 0))) (hq : Q b) (ht : IsSk h Q t vs) (hu : IsSk h Q u ws) :
    IsSk h Q (.node k [] 0 0 false [] [t, u]) (skL k [] 0 0 false (.slice none 0 0) (.slice (some ⟨b, 0, none⟩) 2 2)) := by
  simp only [IsSk]
  refine ⟨_, _, rfl, .nil, .inr ⟨b, 2, (vs ++ ws).toArray, hq, rfl, by simp, by simp [ht.len, hu.len], hb, ?_⟩⟩
  have := IsKids.two ht hu
  have e : [t, u].length * 7 = (vs ++ ws).length := by simp [ht.len, hu.len]
  rw [e, List.toList_toArray, List.take_length]
  exact this
theorem ret_sk {b : Nat} {cs : Array Value} {t : U} {vs : List Value} (hb : h[b]? = some (.cells cs 40 (0, 0))) (hs : cs.size = 7) {Q : Nat → Prop} (hq : ∀ x, Q x → x ≠ b) (ht : IsSk h Q t vs)
    (hK : ∀ h', Upd h h' b (.cells vs.toArray 40 (0, 0)) → IsSk h' Q t vs → R (.agg vs.toArray) h') :
    pStore Tryz.prog 40 (.pointer (some ⟨b, 0, none⟩)) (.agg vs.toArray) h fun h' => pLoad Tryz.prog 40 (.pointer (some ⟨b, 0, none⟩)) h' fun r => R r h' :=
  ret_full hb (by rw [Tryz.size40]; simp [ht.len]) (by rw [Tryz.agg40]; simp [ht.len]) (by simp [ht.len, hs]) (by simpa using ht.flat) fun h' hu =>
    hK h' hu (ht.frame fun x hx _ => ⟨hx, hu.other x (hq x hx)⟩)

/-! ### A row of strings that grows -/
def SRow (h : Heap) (n : Nat) (v : Value) (l : List Op) : Prop := Owns h n 9 1 v l.length (l.map str)
theorem SRow.nil : SRow h n (.slice none 0 0) [] := Owns.nil ..
theorem SRow.is {v : Value} {l : List Op} (k : SRow h n v l) : IsStrs h (fun b => n ≤ b) l v := by
  obtain ⟨h1, h2⟩ := k
  rcases h2 with ⟨e, hz⟩ | ⟨g, cap, cur, e1, e2, e3, e4, e5, e6, e7⟩
  · exact .inl ⟨List.length_eq_zero_iff.1 hz, e⟩
  · exact .inr ⟨g, cap, cur, e2, e1, e4, e3, by simpa using e7⟩
theorem SRow.frame {h' : Heap} {v : Value} {l : List Op} (k : SRow h n v l) (hs : ∀ b, n ≤ b → b < h.size → h'[b]? = h[b]?) : SRow h' n v l := by
  obtain ⟨h1, h2⟩ := k
  refine ⟨h1, h2.imp id ?_⟩
  rintro ⟨g, cap, cur, e1, e2, e3, e4⟩
  exact ⟨g, cap, cur, e1, e2, (hs g e2 (at_lt e3)).trans e3, e4⟩
theorem SRow.lt {v : Value} {l : List Op} (k : SRow h n v l) : ∀ b, v.ownBlock = some b → n ≤ b ∧ b < h.size := by
  intro b hb
  obtain ⟨h1, h2⟩ := k
  rcases h2 with ⟨rfl, _⟩ | ⟨g, cap, cur, rfl, e2, e3, e4⟩
  · cases hb
  · have : g = b := by simpa [Value.ownBlock] using hb
    subst this
    exact ⟨e2, at_lt e3⟩
/-- strings put behind a row: from a row of m cells at an address -/
theorem push_strs {v : Value} {l m : List Op} {cs : Array Bool} {a : Addr} {c : Nat} {K : Value → Heap → Prop} (b : SRow h n v l) (hn : n ≤ h.size) (hlen : l.length + m.length ≤ 1000000000)
    (hat : ∀ j (hj : j < m.length), hcell h (a.add j) = some (str m[j]))
    (hK : ∀ v' h', SRow h' n v' (l ++ m) → GrownH h h' v.ownBlock → (v' = .slice none 0 0 ↔ v = .slice none 0 0 ∧ m.length = 0) → K v' h') :
    Runs Tryz.prog (builtin .append #[22, 22] 22 cs #[v, .slice (some a) m.length c]) h K E := by
  refine runs_append' (size := 1) (bytes := 16) (news := m.map str) (a := a) (m := m.length) Tryz.info9 Tryz.underlying22 rfl (by omega) b (by simp) ?_ ?_ (by simp [maxLen]; omega) (by omega) hn fun v' h2 ho' hg hnil hat2 => ?_
  · intro j u hj
    have hj2 : j < m.length := by
      have := (List.getElem?_eq_some_iff.1 hj).1
      simpa using this
    rw [hat j hj2]
    simpa [hj2] using hj
  · intro u hu
    obtain ⟨x, _, rfl⟩ := List.mem_map.1 hu
    rfl
  · exact hK v' h2 (by unfold SRow; simpa using ho') hg hnil
theorem Fm.grownS {h0 h' : Heap} {v : Value} {l : List Op} (b : SRow h n v l) (hn : n ≤ h0.size) (g : GrownH h h' v.ownBlock) (f : Fm n r h0 h) : Fm n r h0 h' :=
  f.trans (Fm.grown g (Nat.le_trans hn f.size) fun x hx => .inl (b.lt x hx).1)
/-- one string put behind a row -/
theorem push_str1 {v x : Value} {l : List Op} {y : Op} {K : Value → Heap → Prop} (hx : x = str y) (b : SRow h n v l) (hn : n ≤ h.size) (hlen : l.length ≤ 100000000)
    (hK : ∀ v' h', SRow h' n v' (l ++ [y]) → (∀ r, Fm n r h h') → K v' h') :
    Runs Tryz.prog (vS (Instr.buildSlice 22 1 #[(0, x)])) h (fun s h1 => Runs Tryz.prog (builtin .append #[22, 22] 22 #[false, false] #[v, s]) h1 K E) E := by
  subst hx
  refine slice1_rule Tryz.info9 Tryz.underlying22 rfl (by omega) (by omega) fun h1 a1 => ?_
  have s1 := a1.size
  have b1 : SRow h1 n v l := b.frame fun k _ hk => a1.old k hk
  refine push_strs (m := [y]) b1 (by omega) (by simp; omega) (fun j hj => ?_) fun v' h2 r2 g2 _ => hK v' h2 r2 fun r => ?_
  · have : j = 0 := by simpa using hj
    subst this
    rw [addr_add, hcell_of a1.at_]
    rfl
  · exact Fm.grownS b1 hn g2 (Fm.al a1 hn)
/-- two strings as a new row -/
theorem push_str2 {x1 x2 : Value} {y1 y2 : Op} {K : Value → Heap → Prop} (hx : x1 = str y1) (hx2 : x2 = str y2)
    (hK : ∀ v' h', SRow h' h.size v' [y1, y2] → (∀ r, Fm h.size r h h') → K v' h') :
    Runs Tryz.prog (vS (Instr.buildSlice 22 2 #[(0, x1), (1, x2)])) h (fun s h1 => Runs Tryz.prog (builtin .append #[22, 22] 22 #[false, false] #[.slice none 0 0, s]) h1 K E) E := by
  subst hx hx2
  refine slice2_rule Tryz.info9 Tryz.underlying22 ⟨rfl, rfl⟩ (by omega) (by omega) rfl fun h1 a1 => ?_
  have s1 := a1.size
  have b1 : SRow h1 h.size (.slice none 0 0) [] := SRow.nil
  refine push_strs (m := [y1, y2]) b1 (by omega) (by simp) (fun j hj => ?_) fun v' h2 r2 g2 _ => hK v' h2 r2 fun r => ?_
  · rw [addr_add, hcell_of a1.at_]
    have : j < 2 := by simpa using hj
    rcases (by omega : j = 0 ∨ j = 1) with rfl | rfl <;> rfl
  · exact Fm.grownS b1 (Nat.le_refl _) g2 (Fm.al a1 (Nat.le_refl _))
end Rt
end Go.Proofs
