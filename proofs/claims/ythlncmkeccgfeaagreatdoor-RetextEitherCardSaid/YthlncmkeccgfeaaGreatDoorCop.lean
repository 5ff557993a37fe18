/- A part of the proofs over this seat: Cop. -/
import Derived.Test.YthlncmkeccgfeaaGreatDoorPrs3
set_option linter.unusedVariables false
set_option linter.unusedSimpArgs false
set_option maxRecDepth 100000
namespace Go.Proofs
open Go.Vcg
namespace Rt
attribute [local congr] Reads.congr ReadsS.congr pLoad.congr pLoadS.congr pStore.congr Runs.congr CallsH.congr bcase.congr boolV.congr Stable.congr pAlloc.congr
variable {S : Glb} {n : Nat} {h : Heap} {r : Nat} {bv : Value} {l : List UInt8} {p : Nat} {ext : Bool} {op gr : Nat} {R : Value → Heap → Prop} {E : List PanicEntry → Heap → Prop}

theorem IsRow.get {Q : Nat → Prop} : ∀ {ts : List T} {xs : List Value} {i : Nat} (hi : i < ts.length), IsRow h Q ts xs → IsRe h Q ts[i] ((xs.drop (i * 9)).take 9)
  | t :: ts, xs, 0, hi, hr => by
    simp only [IsRow] at hr
    obtain ⟨v, vs', rfl, h1, h2⟩ := hr
    have hv := h1.len
    simp only [List.getElem_cons_zero, Nat.zero_mul, List.drop_zero]
    rw [List.take_append_of_le_length (by omega), List.take_of_length_le (by omega)]
    exact h1
  | t :: ts, xs, i + 1, hi, hr => by
    simp only [IsRow] at hr
    obtain ⟨v, vs', rfl, h1, h2⟩ := hr
    have hv := h1.len
    simp only [List.getElem_cons_succ]
    have e : (v ++ vs').drop ((i + 1) * 9) = vs'.drop (i * 9) := by
      rw [List.drop_append, List.drop_eq_nil_of_le (by omega), List.nil_append]
      congr 1
      omega
    rw [e]
    exact IsRow.get (by simpa using hi) h2
theorem take_drop9 {l : List Value} {i m : Nat} (hi : i < m) : ((l.take (m * 9)).drop (i * 9)).take 9 = (l.drop (i * 9)).take 9 := by
  rw [List.drop_take, List.take_take]
  congr 1
  omega
theorem Kids.re {v : Value} {ts : List T} {k g : Nat} {s : W4} {mn mx : Int} (hk : Kids h n v ts) (h0 : ts = [] → v = .slice none 0 0) : IsRe h (fun b => n ≤ b) (.node k s mn mx g ts) (reL k s mn mx g v) := by
  simp only [IsRe]
  refine ⟨v, rfl, ?_⟩
  by_cases hts : ts = []
  · exact .inl ⟨hts, h0 hts⟩
  · obtain ⟨xs, ⟨hl, ho⟩, hrow⟩ := hk
    rcases ho with ⟨_, hz⟩ | ⟨b, cap, cur, rfl, e2, e3, e4, e5, e6, e7⟩
    · exact absurd (List.length_eq_zero_iff.1 hz) hts
    · refine .inr ⟨b, cap, cur, e2, rfl, e4, by rw [e6]; omega, e3, ?_⟩
      rw [e7]
      exact hrow.frame fun b hb _ => ⟨hb.1, rfl⟩

theorem Kids.flat {v : Value} {ts : List T} (k : Kids h n v ts) : flat v = true := by
  obtain ⟨xs, ⟨hl, ho⟩, hrow⟩ := k
  rcases ho with ⟨rfl, hz⟩ | ⟨b, cap, cur, rfl, _⟩ <;> rfl
mutual
/-- how many things there are -/
def szT : T → Nat
  | .node _ _ _ _ _ ts => szL ts + 1
def szL : List T → Nat
  | [] => 0
  | t :: ts => szT t + szL ts
end
theorem szT_pos (t : T) : 1 ≤ szT t := by cases t; simp [szT]
theorem szL_len : ∀ ts : List T, ts.length ≤ szL ts
  | [] => by simp
  | t :: ts => by have := szT_pos t; have := szL_len ts; simp only [szL, List.length_cons]; omega
theorem szL_get : ∀ {ts : List T} {i : Nat} (hi : i < ts.length), szT ts[i] ≤ szL ts
  | t :: ts, 0, _ => by simp only [szL, List.getElem_cons_zero]; omega
  | t :: ts, i + 1, hi => by
    have := szL_get (ts := ts) (i := i) (by simpa using hi)
    simp only [szL, List.getElem_cons_succ]; omega
theorem copied_spec : ∀ (m : Nat) {h : Heap} {Q : Nat → Prop} {t : T} {vs : List Value} {R : Value → Heap → Prop} {E : List PanicEntry → Heap → Prop}, szT t ≤ m → szT t ≤ 1000000 → IsRe h Q t vs →
    (∀ h' ws, Fm h.size h.size h h' → IsRe h' (fun b => h.size ≤ b) t ws → R (.agg ws.toArray) h') → CallsH Tryz.prog 32 #[.agg vs.toArray] h R E := by
  intro m
  induction m with
  | zero => intro h Q t vs R E hm; cases t; simp [szT] at hm
  | succ m ih =>
    intro h Q t vs R E hm hm0 ht hk
    cases t with
    | node kind s mn mx g ts =>
    have hlen : ts.length ≤ 1000000 := by
      have := szL_len ts
      simp only [szT] at hm0
      omega
    have ht0 := ht
    simp only [IsRe] at ht
    obtain ⟨kv, rfl, hkids⟩ := ht
    refine C32 ?_
    unfold S32
    refine new_rule fun h1 a1 => alloc_rule Tryz.zero36 fun h2 a2 => ?_
    have s1 := a1.size
    have s2 := a2.size
    have b1 : h2[h.size]? = some (.cells (reL kind s mn mx g kv).toArray 36 (0, 0)) := (a2.old h.size (by omega)).trans a1.at_
    have f2 : Fm h.size h.size h h2 := (Fm.al a1 (Nat.le_refl _)).trans (Fm.al a2 (by omega))
    rw [Tryz.fa36_5, addr_add, Nat.zero_add, pLoad_one Tryz.agg34 (v := kv) (by rw [hcell_of b1]; rfl), Tryz.fa36_5, addr_add, Nat.zero_add]
    refine store1 b1 Tryz.size34 rfl (by simp [reL]) fun h3 hu3 => ?_
    have s3 := hu3.size
    have hkv : ∃ q c, kv = .slice q ts.length c := by
      rcases hkids with ⟨rfl, rfl⟩ | ⟨b, cap, cur, _, rfl, _⟩
      · exact ⟨_, _, rfl⟩
      · exact ⟨_, _, rfl⟩
    obtain ⟨q, cc, rfl⟩ := hkv
    rw [reads_rlen Tryz.underlying34]
    refine Loop1.fuel (fun k a h' => ∃ i v, i ≤ ts.length ∧ k = ts.length - i ∧ a = .int .i64 i ∧ Fm h.size h.size h h' ∧ h2.size ≤ h'.size ∧ h'[h.size]? = some (.cells (reL kind s mn mx g v).toArray 36 (0, 0)) ∧
      h'[h1.size]? = h2[h1.size]? ∧ Kids h' h2.size v (ts.take i) ∧ (i = 0 → v = .slice none 0 0)) (n := ts.length)
      ⟨0, .slice none 0 0, by omega, by simp, rfl, f2.trans (Fm.upd hu3 (.inl (Nat.le_refl _))), by omega, hu3.same, hu3.other h1.size (by omega), by simpa using Kids.nil _ _, fun _ => rfl⟩ fun k a h4 hi => ?_
    obtain ⟨i, v, hi, rfl, rfl, f4, hs4, hb4, hb24, hkid, hv0⟩ := hi
    have s4 := f4.size
    rw [reads_lt, boolV_bool]
    refine bcase_of (fun hc => ?_) (fun hc => ?_)
    · have hlt : i < ts.length := by have := of_decide_eq_true hc; omega
      rcases hkids with ⟨rfl, _⟩ | ⟨bk, cap, cur, hQ, hkv, hcap, hcur, hbk, hrow⟩
      · simp at hlt
      cases hkv
      have hbk4 := (f4.same bk (at_lt hbk) (by have := at_lt hbk; omega)).trans hbk
      rw [reads_idxRow Tryz.underlying34 Tryz.size36 hlt, addr_add, Nat.zero_add]
      refine load_row hbk4 Tryz.agg36 (by omega) ?_
      have htk : IsRe h Q ts[i] ((cur.toList.drop (i * 9)).take 9) := by
        have := hrow.get hlt
        rwa [take_drop9 hlt] at this
      refine alloc_rule Tryz.zero36 fun h5 a5 => ?_
      have s5 := a5.size
      refine storeFull a5.at_ (xs := ((cur.toList.drop (i * 9)).take 9).toArray) (by rw [Tryz.size36]; simp only [List.size_toArray, htk.len]) (by simp only [List.size_toArray, htk.len]; rfl) (by simpa using htk.flat) fun h6 hu6 => ?_
      have s6 := hu6.size
      have e6 : ∀ b, b < h4.size → h6[b]? = h4[b]? := fun b hb => (hu6.other b (by omega)).trans (a5.old b hb)
      have hb6 := (e6 h.size (by omega)).trans hb4
      refine ⟨fun h' => h'[h.size]? = some (.cells (reL kind s mn mx g v).toArray 36 (0, 0)) ∧ h'[h4.size]? = some (.cells ((cur.toList.drop (i * 9)).take 9).toArray 36 (0, 0)), ⟨hb6, hu6.same⟩, ?_⟩
      refine readsS_lift (fun h k => Tryz.fa36_5) ?_
      rw [addr_add, Nat.zero_add]
      refine pLoadS_one Tryz.agg34 (v := v) (fun h' hh => by rw [hcell_of hh.1]; rfl) ?_
      refine pLoadS_all (by rw [Tryz.agg36]; simp only [List.size_toArray, htk.len]) (fun h' hh => hh.2) ?_
      refine ⟨?_, trivial⟩
      have f6 : Fm h.size h.size h h6 := (f4.trans (Fm.al a5 (by omega))).trans (Fm.upd hu6 (.inl (by omega)))
      have htk6 : IsRe h6 (fun b => b < h.size) ts[i] ((cur.toList.drop (i * 9)).take 9) := htk.frame fun b hb hlt => ⟨hlt, f6.same b hlt (by omega)⟩
      have hsz : szT ts[i] ≤ szL ts := szL_get hlt
      refine ih (by simp only [szT] at hm; omega) (by simp only [szT] at hm0; omega) htk6 fun h7 ws f7 ht7 => ?_
      have s7 := f7.size
      have e7 : ∀ b, b < h6.size → h7[b]? = h6[b]? := fun b hb => f7.same b hb (by omega)
      refine ⟨⟨(e7 h.size (by omega)).trans hb6, (e7 h4.size (by omega)).trans hu6.same⟩, ?_, trivial⟩
      have hkid7 : Kids h7 h2.size v (ts.take i) := hkid.frame fun b h1 h2 => (e7 b (by omega)).trans (e6 b h2)
      refine slice1_rule Tryz.info36 Tryz.underlying34 (by simp [Value.cells, ht7.len]) (by omega) (by omega) fun h8 a8 => ?_
      have s8 := a8.size
      refine ⟨⟨(a8.old h.size (by omega)).trans ((e7 h.size (by omega)).trans hb6), (a8.old h4.size (by omega)).trans ((e7 h4.size (by omega)).trans hu6.same)⟩, ?_, trivial⟩
      have hkid6 : Kids h6 h2.size v (ts.take i) := hkid.frame fun b h1 h2 => e6 b h2
      refine push_append hkid7 (hkid6.apart (by omega) ht7) (by omega) (by simp; omega) a8 fun v' h9 hk9 hf9 => ?_
      have s9 := (hf9 h9.size).size
      refine ⟨trivial, ?_⟩
      rw [Tryz.fa36_5, addr_add, Nat.zero_add]
      refine ⟨?_, trivial⟩
      have b9 := ((hf9 h9.size).same h.size (by omega) (by omega)).trans ((e7 h.size (by omega)).trans hb6)
      refine store1 b9 Tryz.size34 hk9.flat (by simp [reL]) fun h10 hu10 => ?_
      have s10 := hu10.size
      refine ⟨trivial, ?_⟩
      rw [reads_add, wrap_n1 _ (by omega)]
      have f9 : Fm h.size h.size h7 h9 := (hf9 h.size).less (by omega)
      refine ⟨ts.length - (i + 1), by omega, i + 1, v', by omega, rfl, rfl, ((f6.trans ⟨f7.size, fun b hb _ => e7 b (by omega)⟩).trans f9).trans (Fm.upd hu10 (.inl (Nat.le_refl _))), by omega, hu10.same, ?_, ?_, by omega⟩
      · rw [hu10.other h1.size (by omega), (hf9 h9.size).same h1.size (by omega) (by omega), e7 h1.size (by omega), e6 h1.size (by omega), hb24]
      · rw [List.take_add_one, List.getElem?_eq_getElem hlt]
        exact hk9.frame fun b hb _ => hu10.other b (by omega)
    · have hil : i = ts.length := by have := of_decide_eq_false hc; omega
      subst hil
      rw [List.take_length] at hkid
      refine load_all hb4 Tryz.agg36 ?_
      refine ret_re (t := .node kind s mn mx g ts) (vs := reL kind s mn mx g v) (Q := fun b => h2.size ≤ b) (hb24.trans a2.at_) rfl (fun x hx => by omega) (hkid.re fun e => hv0 (by rw [e]; rfl)) fun h5 hu5 ht5 => ?_
      exact hk h5 _ (f4.trans (Fm.upd hu5 (.inl (by omega)))) (ht5.frame fun b hb _ => ⟨by omega, rfl⟩)

theorem tree_spec {b : Nat} {t : T} {vs : List Value} {Q : Nat → Prop} (hb : h[b]? = some (.cells (vs ++ [Value.int .i64 gr, Value.bool ext]).toArray 66 (0, 0))) (ht : IsRe h Q t vs) (hs : szT t ≤ 1000000)
    (hk : ∀ h' ws, Fm h.size h.size h h' → IsRe h' (fun b => h.size ≤ b) t ws → R (.agg ws.toArray) h') : CallsH Tryz.prog 13 #[ptr b] h R E := by
  refine C13 ?_
  unfold S13
  refine alloc_rule Tryz.zero36 fun h1 a1 => ?_
  have s1 := a1.size
  have hlt := at_lt hb
  have hb1 := (a1.old b hlt).trans hb
  rw [Tryz.eql24_s, boolV_bool, bcase_false, reads_nil, Tryz.fa66_0, addr_add]
  refine load_row (off := 0) (n := 9) hb1 Tryz.agg36 (by simp [ht.len]) ?_
  have e : ((vs ++ [Value.int .i64 gr, Value.bool ext]).toArray.toList.drop 0).take 9 = vs := by
    simp only [List.drop_zero]
    rw [List.take_append_of_le_length (by rw [ht.len]; omega), List.take_of_length_le (by rw [ht.len]; omega)]
  rw [e]
  refine copied_spec _ (Nat.le_refl _) hs (ht.frame (Q' := fun _ => True) fun x _ hx => ⟨trivial, a1.old x hx⟩) fun h2 ws f2 ht2 => ?_
  have s2 := f2.size
  refine ret_re (Q := fun x => h1.size ≤ x) ((f2.same h.size (by omega) (by omega)).trans a1.at_) rfl (fun x hx => by omega) ht2 fun h3 hu3 ht3 => ?_
  have f12 : Fm h.size h.size h1 h2 := ⟨f2.size, fun k hk _ => f2.same k (by omega) (by omega)⟩
  exact hk h3 ws (((Fm.al a1 (Nat.le_refl _)).trans f12).trans (Fm.upd hu3 (.inl (Nat.le_refl _)))) (ht3.frame fun x hx _ => ⟨by omega, rfl⟩)
theorem groups_spec {b : Nat} {vs : List Value} (hl : vs.length = 9) (hb : h[b]? = some (.cells (vs ++ [Value.int .i64 gr, Value.bool ext]).toArray 66 (0, 0))) (hk : R (.int .i64 gr) h) : CallsH Tryz.prog 12 #[ptr b] h R E := by
  refine C12 ?_
  unfold S12
  rw [Tryz.eql24_s, boolV_bool, bcase_false, reads_nil, Tryz.fa66_1, addr_add, pLoad_one (v := .int .i64 gr) Tryz.agg3]
  · exact hk
  · rw [hcell_of hb]
    simp [hl]
end Rt
end Go.Proofs
