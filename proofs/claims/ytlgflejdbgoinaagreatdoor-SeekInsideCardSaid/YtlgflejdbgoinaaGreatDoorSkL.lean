/- A part of the proofs over this seat: SkL. -/
import Derived.Test.YtlgflejdbgoinaaGreatDoorSkX
set_option linter.unusedVariables false
set_option linter.unusedSimpArgs false
set_option maxRecDepth 100000
namespace Go.Proofs
open Go.Vcg Go.Extern
namespace Rt
attribute [local congr] Reads.congr ReadsS.congr pLoad.congr pLoadS.congr pStore.congr Runs.congr CallsH.congr bcase.congr boolV.congr Stable.congr pAlloc.congr
variable {S : Glb} {n : Nat} {h : Heap} {R : Value → Heap → Prop} {E : List PanicEntry → Heap → Prop}

/-! ### Text -/
def kindU : U → Nat
  | .node k _ _ _ _ _ _ => k
theorem text_nil (hk : R (str []) h) : CallsH Tryz.prog 12 #[.pointer none] h R E := by
  refine C12 ?_
  unfold S12
  refine Join0.intro (fun _ => False) ?_ (fun _ h => h.elim)
  rw [Tryz.eql24_n, boolV_bool, bcase_true]
  exact hk
theorem text_spec {b : Nat} {vs : List Value} {t : U} {Q : Nat → Prop} (hb : h[b]? = some (.cells vs.toArray 55 (0, 0))) (ht : IsSk h Q t vs) (hok : okU t) (h0 : kindU t ≠ 0) (hlen : (writeU t).length ≤ 100000000)
    (hk : ∀ h', Fm h.size h.size h h' → R (str (writeU t)) h') : CallsH Tryz.prog 12 #[ptr b] h R E := by
  refine C12 ?_
  unfold S12
  refine Join0.intro (fun h' => h' = h) ?_ ?_
  · rw [Tryz.eql24_s, boolV_bool, bcase_false, reads_nil, Tryz.fa55_0, addr_add, Tryz.fa40_0, addr_add]
    cases t with
    | node k tx sg nm by_ args ts =>
    have ht' := ht
    simp only [IsSk] at ht'
    obtain ⟨av, kv, rfl, _⟩ := ht'
    rw [pLoad_one (v := .int .i64 k) Tryz.agg3 (by rw [hcell_of hb]; rfl), reads_eq, boolV_bool]
    refine bcase_of (fun hc => ?_) (fun _ => rfl)
    exact absurd (by have := of_decide_eq_true hc; show k = 0; omega) h0
  rintro h1 rfl
  rw [reads_nil, Tryz.fa55_0, addr_add]
  refine load_row (off := 0) (n := 7) hb Tryz.agg40 (by simp [ht.len]) ?_
  have e : (vs.toArray.toList.drop 0).take 7 = vs := by
    simp only [List.drop_zero]
    rw [List.take_of_length_le (by rw [ht.len]; omega)]
  rw [e]
  exact write_spec _ (Nat.le_refl _) hok hlen ht hk

/-! ### The tree, copied -/
structure SKids (h : Heap) (n : Nat) (v : Value) (ts : List U) : Prop where
  ex : ∃ xs, Owns h n 40 7 v ts.length xs ∧ IsKids h (fun b => n ≤ b ∧ v.ownBlock ≠ some b) ts xs
theorem SKids.nil (h : Heap) (n : Nat) : SKids h n (.slice none 0 0) [] := ⟨[], Owns.nil .., by simp only [IsKids]⟩
theorem SKids.frame {h' : Heap} {v : Value} {ts : List U} (k : SKids h n v ts) (hs : ∀ b, n ≤ b → b < h.size → h'[b]? = h[b]?) : SKids h' n v ts := by
  obtain ⟨xs, ho, h3⟩ := k
  exact ⟨xs, Owns.fm (fun b hb hlt => hs b hb hlt) ho, h3.frame fun b hb hlt => ⟨hb, hs b hb.1 hlt⟩⟩
theorem SKids.flat {v : Value} {ts : List U} (k : SKids h n v ts) : flat v = true := by
  obtain ⟨xs, ⟨hl, ho⟩, hrow⟩ := k
  rcases ho with ⟨rfl, hz⟩ | ⟨b, cap, cur, rfl, _⟩ <;> rfl
theorem SKids.block {v : Value} {ts : List U} (k : SKids h n v ts) : ∀ b, v.ownBlock = some b → n ≤ b ∧ b < h.size := by
  obtain ⟨xs, ⟨hl, ho⟩, hrow⟩ := k
  intro b e
  rcases ho with ⟨rfl, hz⟩ | ⟨g, cap, cur, rfl, e2, e3, _⟩
  · cases e
  · have : g = b := by simpa [Value.ownBlock] using e
    subst this
    exact ⟨e2, at_lt e3⟩
/-- what a call has made does not lie in the list's row -/
theorem SKids.apart {h' : Heap} {v : Value} {ts : List U} (k : SKids h n v ts) (hn : n ≤ h.size) {t : U} {vs : List Value} (ht : IsSk h' (fun b => h.size ≤ b) t vs) : IsSk h' (fun b => n ≤ b ∧ v.ownBlock ≠ some b) t vs :=
  ht.frame fun b hb _ => ⟨⟨Nat.le_trans hn hb, fun e => by have := k.block b e; omega⟩, rfl⟩
theorem Owns.rows {base k size : Nat} {e : TypeId} {v : Value} {xs ys : List Value} (a : Owns h base e size v k xs) (b : Owns h base e size v k ys) : xs = ys := by
  obtain ⟨l1, a⟩ := a
  obtain ⟨l2, b⟩ := b
  rcases a with ⟨rfl, rfl⟩ | ⟨g, cap, cur, rfl, e2, e3, e4, e5, e6, e7⟩
  · rw [Nat.zero_mul] at l1 l2
    rw [List.length_eq_zero_iff.1 l1, List.length_eq_zero_iff.1 l2]
  · rcases b with ⟨e, _⟩ | ⟨g', cap', cur', e, e2', e3', e4', e5', e6', e7'⟩
    · cases e
    · cases e
      rw [e3] at e3'
      cases e3'
      rw [← e7, ← e7']
theorem skids_push {v : Value} {ts : List U} {t : U} {vs : List Value} {K : Value → Heap → Prop} (k : SKids h n v ts) (ht : IsSk h (fun b => n ≤ b ∧ v.ownBlock ≠ some b) t vs) (hn : n ≤ h.size) (hlen : ts.length ≤ 1000000)
    {h1 : Heap} (a1 : Al h h1 (.cells vs.toArray 40 (0, 0))) (hK : ∀ v' h', SKids h' n v' (ts ++ [t]) → (∀ r, Fm n r h h') → K v' h') :
    Runs Tryz.prog (builtin .append #[38, 38] 38 #[false, false] #[v, .slice (some ⟨h.size, 0, none⟩) 1 1]) h1 K E := by
  obtain ⟨xs, ho0, hrow0⟩ := k
  have ho := Owns.al a1 ho0
  refine runs_append' (size := 7) (bytes := 96) (news := vs) Tryz.info40 Tryz.underlying38 rfl (by omega) ho (by rw [ht.len]) ?_ ?_ (by simp [maxLen]; omega) (by omega) (by rw [a1.size]; omega) fun v' h2 ho' hg hnil hat => ?_
  · intro j u hj
    rw [addr_add, Nat.zero_add, hcell_of a1.at_]
    simpa using hj
  · intro u hu
    have := ht.flat u hu
    cases u <;> first | rfl | (simp [Go.Vcg.flat] at this)
  · refine hK v' h2 ⟨xs ++ vs, by simpa using ho', ?_⟩ fun r => ?_
    · have keep : ∀ b, n ≤ b ∧ v.ownBlock ≠ some b → b < h.size → (n ≤ b ∧ v'.ownBlock ≠ some b) ∧ h2[b]? = h[b]? := by
        intro b hb hlt
        have s1 := a1.size
        refine ⟨⟨hb.1, fun e => ?_⟩, (hg.block b (by omega) (fun e => hb.2 e.symm)).trans (a1.old b hlt)⟩
        rcases hat with h3 | h3
        · exact hb.2 (h3 ▸ e)
        · rw [h3] at e
          have : h1.size = b := by simpa using e
          omega
      exact IsKids.snoc (ht.frame keep) (hrow0.frame keep)
    · refine (Fm.al a1 hn).trans (Fm.grown hg (by rw [a1.size]; omega) fun b hb => .inl ?_)
      obtain ⟨_, h2⟩ := ho
      rcases h2 with ⟨rfl, _⟩ | ⟨gg, cap, cur, rfl, e2, _⟩
      · cases hb
      · have : gg = b := by simpa [Value.ownBlock] using hb
        omega
theorem SKids.sk {v av : Value} {ts : List U} {k : Nat} {tx : Op} {sg nm : Int} {b : Bool} {args : List Op} (hk : SKids h n v ts) (ha : IsStrs h (fun b => n ≤ b) args av) (h0 : ts = [] → v = .slice none 0 0) : IsSk h (fun b => n ≤ b) (.node k tx sg nm b args ts) (skL k tx sg nm b av v) := by
  simp only [IsSk]
  refine ⟨av, v, rfl, ha, ?_⟩
  by_cases hts : ts = []
  · exact .inl ⟨hts, h0 hts⟩
  · obtain ⟨xs, ⟨hl, ho⟩, hrow⟩ := hk
    rcases ho with ⟨_, hz⟩ | ⟨b, cap, cur, rfl, e2, e3, e4, e5, e6, e7⟩
    · exact absurd (List.length_eq_zero_iff.1 hz) hts
    · refine .inr ⟨b, cap, cur, e2, rfl, e4, by rw [e6]; omega, e3, ?_⟩
      rw [e7]
      exact hrow.frame fun b hb _ => ⟨hb.1, rfl⟩
theorem runs_append_none {v : Value} {K : Value → Heap → Prop} (hv : v = .slice none 0 0) (hk : K (.slice none 0 0) h) : Runs Tryz.prog (builtin .append #[22, 22] 22 #[true, false] #[.slice none 0 0, v]) h K E := by
  subst hv
  intro w hw
  subst hw
  obtain ⟨i, hi, _, _, _⟩ := Tryz.info9
  have hr := run_append_owned_none (P := Tryz.prog) (w := w) w.heap.size 22 22 9 i 1 Tryz.underlying22 hi (.slice none 0 0) 0 [] (Owns.nil ..)
  simp only [builtin, Sem.run_bind, hr, Result.andThen_ok, Sem.run_pure, uponH]
  exact ⟨⟨rfl, rfl, rfl⟩, hk⟩

theorem copied_spec : ∀ (m : Nat) {h : Heap} {Q : Nat → Prop} {t : U} {vs : List Value} {R : Value → Heap → Prop} {E : List PanicEntry → Heap → Prop}, szU t ≤ m → okU t → IsSk h Q t vs →
    (∀ h' ws, Fm h.size h.size h h' → IsSk h' (fun b => h.size ≤ b) t ws → R (.agg ws.toArray) h') → CallsH Tryz.prog 33 #[.agg vs.toArray] h R E := by
  intro m
  induction m with
  | zero => intro h Q t vs R E hm; have := szU_pos t; omega
  | succ m ih =>
    intro h Q t vs R E hm hok ht hk
    cases t with
    | node kind tx sg nm by_ args ts =>
    have hok0 := hok
    simp only [okU] at hok
    obtain ⟨htx, hnum, hal, has, htl, hts⟩ := hok
    have ht0 := ht
    simp only [IsSk] at ht
    obtain ⟨av, kv, rfl, hargs, hkids⟩ := ht
    refine C33 ?_
    unfold S33
    refine new_rule fun h1 a1 => alloc_rule Tryz.zero40 fun h2 a2 => ?_
    have s1 := a1.size
    have s2 := a2.size
    have b1 : h2[h.size]? = some (.cells (skL kind tx sg nm by_ av kv).toArray 40 (0, 0)) := (a2.old h.size (by omega)).trans a1.at_
    have f2 : Fm h.size h.size h h2 := (Fm.al a1 (Nat.le_refl _)).trans (Fm.al a2 (by omega))
    rw [Tryz.fa40_6, addr_add, Nat.zero_add, pLoad_one Tryz.agg38 (v := kv) (by rw [hcell_of b1]; rfl), Tryz.fa40_6, addr_add, Nat.zero_add]
    refine store1 b1 Tryz.size38 rfl (by simp [skL]) fun h3 hu3 => ?_
    have s3 := hu3.size
    have hkv : ∃ q c, kv = .slice q ts.length c := by
      rcases hkids with ⟨rfl, rfl⟩ | ⟨b, cap, cur, _, rfl, _⟩
      · exact ⟨_, _, rfl⟩
      · exact ⟨_, _, rfl⟩
    obtain ⟨q, cc, rfl⟩ := hkv
    rw [reads_rlen Tryz.underlying38]
    refine Loop1.fuel (fun k a h' => ∃ i v, i ≤ ts.length ∧ k = ts.length - i ∧ a = .int .i64 i ∧ Fm h.size h.size h h' ∧ h2.size ≤ h'.size ∧ h'[h.size]? = some (.cells (skL kind tx sg nm by_ av v).toArray 40 (0, 0)) ∧
      h'[h1.size]? = h2[h1.size]? ∧ SKids h' h2.size v (ts.take i) ∧ (i = 0 → v = .slice none 0 0)) (n := ts.length)
      ⟨0, .slice none 0 0, by omega, by simp, rfl, f2.trans (Fm.upd hu3 (.inl (Nat.le_refl _))), by omega, hu3.same, hu3.other h1.size (by omega), by simpa using SKids.nil _ _, fun _ => rfl⟩ fun k a h4 hi => ?_
    obtain ⟨i, v, hi, rfl, rfl, f4, hs4, hb4, hb24, hkid, hv0⟩ := hi
    have s4 := f4.size
    rw [reads_lt, boolV_bool]
    refine bcase_of (fun hc => ?_) (fun hc => ?_)
    · have hlt : i < ts.length := by have := of_decide_eq_true hc; omega
      rcases hkids with ⟨rfl, _⟩ | ⟨bk, cap, cur, hQ, hkv, hcap, hcur, hbk, hrow⟩
      · simp at hlt
      cases hkv
      have hbk4 := (f4.same bk (at_lt hbk) (by have := at_lt hbk; omega)).trans hbk
      rw [reads_idxRow Tryz.underlying38 Tryz.size40 hlt, addr_add, Nat.zero_add]
      refine load_row hbk4 Tryz.agg40 (by omega) ?_
      have htk : IsSk h Q ts[i] ((cur.toList.drop (i * 7)).take 7) := by
        have := hrow.get i hlt
        rwa [List.drop_take, List.take_take, Nat.min_eq_left (by omega)] at this
      refine alloc_rule Tryz.zero40 fun h5 a5 => ?_
      have s5 := a5.size
      refine storeFull a5.at_ (xs := ((cur.toList.drop (i * 7)).take 7).toArray) (by rw [Tryz.size40]; simp only [List.size_toArray, htk.len]) (by simp only [List.size_toArray, htk.len]; rfl) (by simpa using htk.flat) fun h6 hu6 => ?_
      have s6 := hu6.size
      have e6 : ∀ b, b < h4.size → h6[b]? = h4[b]? := fun b hb => (hu6.other b (by omega)).trans (a5.old b hb)
      have hb6 := (e6 h.size (by omega)).trans hb4
      refine ⟨fun h' => h'[h.size]? = some (.cells (skL kind tx sg nm by_ av v).toArray 40 (0, 0)) ∧ h'[h4.size]? = some (.cells ((cur.toList.drop (i * 7)).take 7).toArray 40 (0, 0)), ⟨hb6, hu6.same⟩, ?_⟩
      refine readsS_lift (fun h k => Tryz.fa40_6) ?_
      rw [addr_add, Nat.zero_add]
      refine pLoadS_one Tryz.agg38 (v := v) (fun h' hh => by rw [hcell_of hh.1]; rfl) ?_
      refine pLoadS_all (by rw [Tryz.agg40]; simp only [List.size_toArray, htk.len]) (fun h' hh => hh.2) ?_
      refine ⟨?_, trivial⟩
      have f6 : Fm h.size h.size h h6 := (f4.trans (Fm.al a5 (by omega))).trans (Fm.upd hu6 (.inl (by omega)))
      have htk6 : IsSk h6 (fun b => b < h.size) ts[i] ((cur.toList.drop (i * 7)).take 7) := htk.frame fun b hb hlt => ⟨hlt, f6.same b hlt (by omega)⟩
      have hsz : szU ts[i] ≤ szK ts := szK_get hlt
      refine ih (by simp only [szU] at hm; omega) (okL_get hlt hts) htk6 fun h7 ws f7 ht7 => ?_
      have s7 := f7.size
      have e7 : ∀ b, b < h6.size → h7[b]? = h6[b]? := fun b hb => f7.same b hb (by omega)
      refine ⟨⟨(e7 h.size (by omega)).trans hb6, (e7 h4.size (by omega)).trans hu6.same⟩, ?_, trivial⟩
      have hkid7 : SKids h7 h2.size v (ts.take i) := hkid.frame fun b h1 h2 => (e7 b (by omega)).trans (e6 b h2)
      refine slice1_rule Tryz.info40 Tryz.underlying38 (by simp [Value.cells, ht7.len]) (by omega) (by omega) fun h8 a8 => ?_
      have s8 := a8.size
      refine ⟨⟨(a8.old h.size (by omega)).trans ((e7 h.size (by omega)).trans hb6), (a8.old h4.size (by omega)).trans ((e7 h4.size (by omega)).trans hu6.same)⟩, ?_, trivial⟩
      have hkid6 : SKids h6 h2.size v (ts.take i) := hkid.frame fun b h1 h2 => e6 b h2
      refine skids_push hkid7 (hkid6.apart (by omega) ht7) (by omega) (by simp; omega) a8 fun v' h9 hk9 hf9 => ?_
      have s9 := (hf9 h9.size).size
      refine ⟨trivial, ?_⟩
      rw [Tryz.fa40_6, addr_add, Nat.zero_add]
      refine ⟨?_, trivial⟩
      have b9 := ((hf9 h9.size).same h.size (by omega) (by omega)).trans ((e7 h.size (by omega)).trans hb6)
      refine store1 b9 Tryz.size38 hk9.flat (by simp [skL]) fun h10 hu10 => ?_
      have s10 := hu10.size
      refine ⟨trivial, ?_⟩
      rw [reads_add, wrap_n1 _ (by omega)]
      have f9 : Fm h.size h.size h7 h9 := (hf9 h.size).less (by omega)
      refine ⟨ts.length - (i + 1), by omega, i + 1, v', by omega, rfl, rfl, ((f6.trans ⟨f7.size, fun b hb _ => e7 b (by omega)⟩).trans f9).trans (Fm.upd hu10 (.inl (Nat.le_refl _))), by omega, hu10.same, ?_, ?_, by omega⟩
      · rw [hu10.other h1.size (by omega), (hf9 h9.size).same h1.size (by omega) (by omega), e7 h1.size (by omega), e6 h1.size (by omega), hb24]
      · rw [List.take_add_one, List.getElem?_eq_getElem hlt]
        exact hk9.frame fun b hb _ => hu10.other b (by omega)
    · have hil : i = ts.length := by have := of_decide_eq_false hc; omega
      subst hil
      rw [List.take_length] at hkid
      have hargs4 : IsStrs h4 (fun b => b < h.size) args av := hargs.frame fun b _ hb => ⟨hb, f4.same b hb (by omega)⟩
      rw [Tryz.fa40_5, addr_add, Nat.zero_add, pLoad_one Tryz.agg22 (v := av) (by rw [hcell_of hb4]; rfl)]
      -- the operands, copied
      have fin : ∀ (av' : Value) (h5 : Heap), IsStrs h5 (fun b => h2.size ≤ b ∧ h4.size ≤ b) args av' → Fm h4.size h4.size h4 h5 →
          Reads Tryz.prog (Instr.fieldAt 40 (ptr h.size) 5) h5 fun t26 => pStore Tryz.prog 22 t26 av' h5 fun h12 => pLoad Tryz.prog 40 (ptr h.size) h12 fun t27 => pStore Tryz.prog 40 (ptr h1.size) t27 h12 fun h13 => pLoad Tryz.prog 40 (ptr h1.size) h13 fun r4 => R r4 h13 := by
        intro av' h5 ha5 f5
        have s5 := f5.size
        have e5 : ∀ b, b < h4.size → h5[b]? = h4[b]? := fun b hb => f5.same b hb (by omega)
        rw [Tryz.fa40_5, addr_add, Nat.zero_add]
        refine store1 ((e5 h.size (by omega)).trans hb4) Tryz.size22 ha5.flat (by simp [skL]) fun h6 u6 => ?_
        have s6 := u6.size
        refine load_all u6.same Tryz.agg40 ?_
        have hkid6 : SKids h6 h2.size v ts := hkid.frame fun b h1 h2 => (u6.other b (by omega)).trans (e5 b h2)
        have ha6 : IsStrs h6 (fun b => h2.size ≤ b) args av' := ha5.frame fun b hb hlt => ⟨hb.1, u6.other b (by omega)⟩
        refine ret_sk (t := .node kind tx sg nm by_ args ts) (vs := skL kind tx sg nm by_ av' v) (Q := fun b => h2.size ≤ b) ((u6.other h1.size (by omega)).trans ((e5 h1.size (by omega)).trans (hb24.trans a2.at_))) rfl (fun x hx => by omega) (hkid6.sk ha6 fun e => hv0 (by rw [e]; rfl)) fun h7 hu7 ht7 => ?_
        exact hk h7 _ (((f4.trans ⟨f5.size, fun b hb _ => e5 b (by omega)⟩).trans (Fm.upd u6 (.inl (Nat.le_refl _)))).trans (Fm.upd hu7 (.inl (by omega)))) (ht7.frame fun b hb _ => ⟨by omega, rfl⟩)
      rcases hargs4 with ⟨rfl, rfl⟩ | ⟨bk, cap, cur, hQ, rfl, hcap, hbk, hcur⟩
      · exact runs_append_none rfl (fin _ h4 (.inl ⟨rfl, rfl⟩) (Fm.refl ..))
      · refine push_strs (n := h4.size) (l := []) (m := args) SRow.nil (Nat.le_refl _) (by simp; omega) (fun j hj => ?_) fun v' h5 r5 g5 hn5 => ?_
        · rw [addr_add, Nat.zero_add, hcell_of hbk]
          have h1 : (cur.toList.take args.length)[j]? = (args.map str)[j]? := by rw [hcur]
          rw [List.getElem?_take_of_lt hj] at h1
          rw [← Array.getElem?_toList, h1]
          simp [hj]
        · refine fin v' h5 (by simpa using r5.is.frame (Q' := fun b => h2.size ≤ b ∧ h4.size ≤ b) fun b hb _ => ⟨⟨by omega, hb⟩, rfl⟩) ⟨g5.size, fun b hb _ => g5.block b hb (by simp [Value.ownBlock])⟩
theorem tree_nil (hk : ∀ h', Fm h.size h.size h h' → R (.agg (skL 0 [] 0 0 false (.slice none 0 0) (.slice none 0 0)).toArray) h') : CallsH Tryz.prog 18 #[.pointer none] h R E := by
  refine C18 ?_
  unfold S18
  refine alloc_rule Tryz.zero40 fun h1 a1 => ?_
  rw [Tryz.eql24_n, boolV_bool, bcase_true, Tryz.bd40]
  refine ret_full a1.at_ (xs := (skL 0 [] 0 0 false (.slice none 0 0) (.slice none 0 0)).toArray) Tryz.size40 Tryz.agg40 rfl (flat_skL rfl rfl) fun h2 u2 => ?_
  exact hk h2 ((Fm.al a1 (Nat.le_refl _)).trans (Fm.upd u2 (.inl (Nat.le_refl _))))
theorem tree_spec {b : Nat} {t : U} {vs : List Value} {Q : Nat → Prop} (hb : h[b]? = some (.cells vs.toArray 55 (0, 0))) (ht : IsSk h Q t vs) (hok : okU t)
    (hk : ∀ h' ws, Fm h.size h.size h h' → IsSk h' (fun b => h.size ≤ b) t ws → R (.agg ws.toArray) h') : CallsH Tryz.prog 18 #[ptr b] h R E := by
  refine C18 ?_
  unfold S18
  refine alloc_rule Tryz.zero40 fun h1 a1 => ?_
  have s1 := a1.size
  have hlt := at_lt hb
  have hb1 := (a1.old b hlt).trans hb
  rw [Tryz.eql24_s, boolV_bool, bcase_false, reads_nil, Tryz.fa55_0, addr_add]
  refine load_row (off := 0) (n := 7) hb1 Tryz.agg40 (by simp [ht.len]) ?_
  have e : (vs.toArray.toList.drop 0).take 7 = vs := by
    simp only [List.drop_zero]
    rw [List.take_of_length_le (by rw [ht.len]; omega)]
  rw [e]
  refine copied_spec _ (Nat.le_refl _) hok (ht.frame (Q' := fun _ => True) fun x _ hx => ⟨trivial, a1.old x hx⟩) fun h2 ws f2 ht2 => ?_
  have s2 := f2.size
  refine ret_sk (Q := fun x => h1.size ≤ x) ((f2.same h.size (by omega) (by omega)).trans a1.at_) rfl (fun x hx => by omega) ht2 fun h3 hu3 ht3 => ?_
  have f12 : Fm h.size h.size h1 h2 := ⟨f2.size, fun k hk _ => f2.same k (by omega) (by omega)⟩
  exact hk h3 ws (((Fm.al a1 (Nat.le_refl _)).trans f12).trans (Fm.upd hu3 (.inl (Nat.le_refl _)))) (ht3.frame fun x hx _ => ⟨by omega, rfl⟩)
end Rt
end Go.Proofs

set_option maxRecDepth 100000
namespace Go.Proofs
open Go.Vcg Go.Extern
namespace Rt
attribute [local congr] Reads.congr ReadsS.congr pLoad.congr pLoadS.congr pStore.congr Runs.congr CallsH.congr bcase.congr boolV.congr Stable.congr pAlloc.congr
variable {S : Glb} {n : Nat} {h : Heap} {R : Value → Heap → Prop} {E : List PanicEntry → Heap → Prop}
/-! ### The expression that every program must know -/
def awakeOps : List Op := [[45, 116, 121, 112, 101], [102], [45, 111], [45, 112, 114, 117, 110, 101]]
def awakeU : U := twoU 1 (twoU 2 (leafU 5 [102] 0 0 false) (leafU 9 [] 0 0 false)) printU
theorem awake_model : parseM 20 awakeOps = .ok awakeU := by with_unfolding_all rfl
theorem awake_text : writeU awakeU = [40, 97, 110, 100, 32, 40, 111, 114, 32, 40, 116, 121, 112, 101, 32, 34, 54, 54, 34, 41, 32, 112, 114, 117, 110, 101, 41, 32, 112, 114, 105, 110, 116, 41] := by with_unfolding_all rfl
theorem okU_leaf {k : Nat} {tx : Op} {b : Bool} (h : tx.length ≤ 1024) : okU (leafU k tx 0 0 b) := by
  simp only [leafU, okU, okL]
  exact ⟨h, ⟨0, rfl, by omega⟩, by simp, by simp, by simp, trivial⟩
theorem okU_two {k : Nat} {a b : U} (ha : okU a) (hb : okU b) : okU (twoU k a b) := by
  simp only [twoU, okU, okL]
  exact ⟨by simp, ⟨0, rfl, by omega⟩, by simp, by simp, by simp, ha, hb, trivial⟩
theorem okU_print : okU printU := okU_leaf (by simp)
theorem slice4_rule {x0 x1 x2 x3 : Op} {K : Value → Heap → Prop} (hk : ∀ h', Al h h' (.cells #[str x0, str x1, str x2, str x3] 9 (0, 0)) → K (.slice (some ⟨h.size, 0, none⟩) 4 4) h') :
    Runs Tryz.prog (vS (Instr.buildSlice 22 4 #[(0, str x0), (1, str x1), (2, str x2), (3, str x3)])) h K E := by
  intro w hw
  subst hw
  obtain ⟨i, hi, hz, hsz, _⟩ := Tryz.info9
  have hf := Go.Great.fill_whole (s := 1) (by omega) [str x0, str x1, str x2, str x3] ((Array.range (4 * 1)).map ((str []).cells[· % (str []).cells.size]!)) (by
    intro v hv
    simp only [List.mem_cons, List.not_mem_nil, or_false] at hv
    rcases hv with rfl | rfl | rfl | rfl <;> rfl) (by simp)
  have e := run_buildSlice (P := Tryz.prog) w 22 9 4 #[(0, str x0), (1, str x1), (2, str x2), (3, str x3)] _ i _ Tryz.underlying22 hi hz (by rw [hsz]; omega) (by rw [hsz]; omega) (by rw [hsz]; exact hf)
  have er : (([str x0, str x1, str x2, str x3].flatMap fun v => v.cells.toList).toArray) = #[str x0, str x1, str x2, str x3] := by
    apply Array.ext'
    simp [str, Value.cells]
  rw [er] at e
  simp only [vS, Sem.run_bind, e, Result.andThen_ok, Sem.run_pure, uponH]
  exact ⟨⟨rfl, rfl, rfl⟩, hk _ (Al.push ..)⟩
theorem ops_row {b : Nat} {cs : Array Value} {l : List Op} (hb : h[b]? = some (.cells cs 9 (0, 0))) (hl : cs.toList = l.map str) (c : Nat) (hc : l.length ≤ c) : IsOps h (.slice (some ⟨b, 0, none⟩) l.length c) l := by
  refine .inr ⟨b, 0, c, rfl, hc, at_lt hb, fun i hi => ?_⟩
  rw [hcell_of hb, Nat.zero_add, ← Array.getElem?_toList, hl]
  simp [hi]
theorem awake_spec (gl : Gl S h) (hn : S.N ≤ h.size) (hk : ∀ h', Fm h.size h.size h h' → R (.bool true) h') : CallsH Tryz.prog 9 #[] h R E := by
  refine C9 ?_
  unfold S9
  refine slice4_rule fun h1 a1 => ?_
  have s1 := a1.size
  have f1 : Fm h.size h.size h h1 := Fm.al a1 (Nat.le_refl _)
  refine parse_spec (S := S) (k := 20) (gl.fm f1 hn hn) (by omega) (ops_row (l := awakeOps) a1.at_ rfl 4 (by decide)) (fun b o m c e => by injection e with e1; injection e1 with e1; injection e1 with e1; omega) ?_
  rw [awake_model]
  intro h2 b vs f2 hb2 hbv ht2
  have s2 := f2.size
  have f12 : Fm h.size h.size h h2 := f1.trans ⟨f2.size, fun k hk _ => f2.same k (by omega) (by omega)⟩
  rw [reads_ext0, reads_ext1, Tryz.eql26_n, boolV_bool, bcase_true, Tryz.neq24_s, boolV_bool, bcase_true]
  refine text_spec hbv ht2 (okU_two (okU_two (okU_leaf (by simp)) (okU_leaf (by simp))) okU_print) (by decide) (by rw [awake_text]; simp) fun h3 f3 => ?_
  rw [awake_text, reads_seq]
  simp only [decide_true]
  exact hk h3 (f12.trans ⟨f3.size, fun k hk _ => f3.same k (by omega) (by omega)⟩)
end Rt
end Go.Proofs

set_option maxRecDepth 100000
namespace Go.Proofs
open Go.Vcg Go.Extern
namespace Rt
variable {l : List Op} {p op : Nat} {ac : Bool}

/-! ### What the reader's model tells: it goes on, and its trees are good ones -/
def Good (t : U) (n : Nat) : Prop := okU t ∧ kindU t ≠ 0 ∧ (writeU t).length + 100 ≤ 3000 * n
theorem hexS_len (s : Op) : (hexS s).length = 2 * s.length + 2 := by unfold hexS; rw [List.length_cons, List.length_append, flat_hex]; rfl
theorem write_leaf {k : Nat} {tx : Op} {sg : Int} {m : Nat} {b : Bool} (h9 : k ≠ 9) (h10 : k ≠ 10) : writeU (leafU k tx sg m b) = inPar (wordsM k tx sg m b []) := by
  simp [leafU, writeU, writeL, h9, h10]
theorem join2 {a b : Op} : Go.Lib.join [a, b] [32] = a ++ 32 :: b := by simp [Go.Lib.join, List.intercalate, List.intersperse]
theorem join3 {a b c : Op} : Go.Lib.join [a, b, c] [32] = a ++ 32 :: (b ++ 32 :: c) := by simp [Go.Lib.join, List.intercalate, List.intersperse]
theorem write_two {a b : U} {k : Nat} (hk : k = 1 ∨ k = 2) : (writeU (twoU k a b)).length ≤ (writeU a).length + (writeU b).length + 7 := by
  rcases hk with rfl | rfl
  · simp only [twoU, writeU, writeL, wordsM]
    simp only [Nat.reduceEqDiff, if_false, if_true, List.singleton_append, List.cons_append, List.nil_append]
    rw [inPar_len, join3]
    simp
    omega
  · simp only [twoU, writeU, writeL, wordsM]
    simp only [Nat.reduceEqDiff, if_false, if_true, List.singleton_append, List.cons_append, List.nil_append]
    rw [inPar_len, join3]
    simp
    omega
theorem write_not {a : U} : (writeU (.node 3 [] 0 0 false [] [a])).length = (writeU a).length + 6 := by
  simp only [writeU, writeL, wordsM]
  simp only [Nat.reduceEqDiff, if_false, if_true, List.singleton_append, List.cons_append, List.nil_append]
  rw [inPar_len, join2]
  simp
theorem Good.two {a b : U} {m n k : Nat} (hk : k = 1 ∨ k = 2) (ha : Good a m) (hb : Good b n) : Good (twoU k a b) (m + n) := by
  refine ⟨okU_two ha.1 hb.1, by rcases hk with rfl | rfl <;> simp [twoU, kindU], ?_⟩
  have := write_two (a := a) (b := b) hk
  have h1 := ha.2.2
  have h2 := hb.2.2
  omega
theorem Good.mono {a : U} {m n : Nat} (h : Good a m) (hn : m ≤ n) : Good a n := ⟨h.1, h.2.1, by have := h.2.2; omega⟩
theorem good_text {k : Nat} {tx : Op} (hk : k = 4 ∨ k = 5 ∨ k = 8) (ht : tx.length ≤ 1024) : Good (leafU k tx 0 0 false) 2 := by
  refine ⟨okU_leaf ht, by rcases hk with rfl | rfl | rfl <;> simp [leafU, kindU], ?_⟩
  have h0 : writeU (leafU k tx 0 0 false) = inPar (wordsM k tx 0 0 false []) := by
    have := write_leaf (k := k) (tx := tx) (sg := 0) (m := 0) (b := false) (by rcases hk with rfl | rfl | rfl <;> simp) (by rcases hk with rfl | rfl | rfl <;> simp)
    simpa using this
  rw [h0, inPar_len]
  rcases hk with rfl | rfl | rfl <;>
  · simp only [wordsM, Nat.reduceEqDiff, if_false, if_true]
    rw [join2, List.length_append, List.length_cons (a := 32), hexS_len]
    simp
    omega
theorem good_num {k m : Nat} {sg : Int} {b : Bool} (hk : k = 6 ∨ k = 7) (hm : m < 2 ^ 63) : Good (leafU k [] sg m b) 2 := by
  refine ⟨?_, by rcases hk with rfl | rfl <;> simp [leafU, kindU], ?_⟩
  · simp only [leafU, okU, okL]
    exact ⟨by simp, ⟨m, rfl, hm⟩, by simp, by simp, by simp, trivial⟩
  · rw [write_leaf (by rcases hk with rfl | rfl <;> simp) (by rcases hk with rfl | rfl <;> simp), inPar_len]
    have := numT_len (sg := sg) (b := b) hm
    rcases hk with rfl | rfl <;>
    · simp only [wordsM, Nat.reduceEqDiff, if_false, if_true]
      rw [join2, List.length_append, List.length_cons]
      simp
      omega
theorem good_print : Good printU 1 := by
  refine ⟨okU_print, by simp [printU, leafU, kindU], ?_⟩
  simp [printU, leafU, writeU]
theorem good_prune : Good (leafU 9 [] 0 0 false) 1 := by
  refine ⟨okU_leaf (by simp), by simp [leafU, kindU], ?_⟩
  simp [leafU, writeU]
theorem argsM_spec : ∀ {l : List Op} {x : List Op × Nat}, argsM l = some x → (∀ s ∈ x.1, s ∈ l) ∧ x.2 = x.1.length + 1 ∧ x.2 ≤ l.length
  | [], x, h => by simp [argsM] at h
  | s :: t, x, h => by
    unfold argsM at h
    split at h
    · cases h; simp
    · obtain ⟨y, hy, rfl⟩ := Option.map_eq_some_iff.1 h
      obtain ⟨h1, h2, h3⟩ := argsM_spec hy
      refine ⟨fun u hu => ?_, by simp; omega, by simp; omega⟩
      rcases List.mem_cons.1 hu with rfl | hu
      · simp
      · exact List.mem_cons_of_mem _ (h1 u hu)
theorem join_map_len {f : Op → Op} {B : Nat} : ∀ {l : List Op} (x : Op), (∀ s ∈ l, (f s).length ≤ B) → (Go.Lib.join (x :: l.map f) [32]).length ≤ x.length + l.length * (B + 1)
  | [], x, _ => by simp [Go.Lib.join, List.intercalate]
  | s :: l, x, h => by
    have h1 := h s (List.mem_cons_self ..)
    have ih := join_map_len (l := l) (f s) fun u hu => h u (List.mem_cons_of_mem _ hu)
    have e : Go.Lib.join (x :: (s :: l).map f) [32] = x ++ 32 :: Go.Lib.join (f s :: l.map f) [32] := by simp [Go.Lib.join, List.intercalate, List.intersperse]
    rw [e, List.length_append, List.length_cons, List.length_cons]
    have : (l.length + 1) * (B + 1) = l.length * (B + 1) + (B + 1) := Nat.succ_mul ..
    omega
theorem good_exec {args : List Op} (hl : args.length ≤ 64) (ha : ∀ s ∈ args, s.length ≤ 1024) : Good (.node 11 [] 0 0 false args []) (args.length + 2) := by
  refine ⟨?_, by simp [kindU], ?_⟩
  · simp only [okU, okL]
    exact ⟨by simp, ⟨0, rfl, by omega⟩, by omega, ha, by simp, trivial⟩
  · have h0 : writeU (.node 11 [] 0 0 false args []) = inPar ([101, 120, 101, 99] :: args.map hexS) := by simp [writeU, writeL, wordsM]
    rw [h0, inPar_len]
    have := join_map_len (f := hexS) (B := 2050) (l := args) [101, 120, 101, 99] fun s hs => by have := ha s hs; rw [hexS_len]; omega
    simp at this
    omega
/-- what a part of the model tells, of fuel k, from place p -/
def Tells (need : Nat) (k : Nat) (l : List Op) (p : Nat) (q : Nat) (m : Res (U × Nat × Bool)) : Prop :=
  match m with
  | .out => k < need
  | .bad code pos => 1 ≤ code ∧ code ≤ 21 ∧ pos ≤ l.length
  | .ok (t, p', _) => p < p' ∧ p' ≤ l.length ∧ Good t (p' - q)
def TellsL (need : Nat) (k : Nat) (l : List Op) (p : Nat) (q : Nat) (m : Res (U × Nat × Bool)) : Prop :=
  match m with
  | .out => k < need
  | .bad code pos => 1 ≤ code ∧ code ≤ 21 ∧ pos ≤ l.length
  | .ok (t, p', _) => p ≤ p' ∧ p' ≤ l.length ∧ Good t (p' - q)
theorem sh_get (hsh : ∀ s ∈ l, s.length ≤ 1024) {i : Nat} {s : Op} (h : l[i]? = some s) : s.length ≤ 1024 := by
  obtain ⟨hi, rfl⟩ := List.getElem?_eq_some_iff.1 h
  exact hsh _ (List.getElem_mem hi)
theorem whole0_lt {s : Op} {m : Nat} (h : whole0 s = some m) : m < 2 ^ 63 := by
  unfold whole0 at h
  split at h
  · cases h
  · have := wholeL_le (by omega) s (by omega) h
    omega
theorem prim_tells {k q : Nat} {s : Op} (hlen : l.length ≤ 64) (hsh : ∀ s ∈ l, s.length ≤ 1024) (hp : p < l.length) (hq : q = p) : Tells 0 k l p q (primM l s p ac) := by
  subst hq
  have lt : ∀ {i : Nat} {s : Op}, l[i]? = some s → i < l.length := fun h => (List.getElem?_eq_some_iff.1 h).1
  unfold primM
  split
  · exact ⟨by omega, by omega, good_prune.mono (by omega)⟩
  split
  · exact ⟨by omega, by omega, good_print.mono (by omega)⟩
  split
  · unfold execM
    cases ha : argsM (l.drop (q + 1)) with
    | none => exact ⟨by omega, by omega, Nat.le_refl _⟩
    | some x =>
      obtain ⟨h1, h2, h3⟩ := argsM_spec ha
      rw [List.length_drop] at h3
      simp only
      split
      · exact ⟨by omega, by omega, by omega⟩
      · refine ⟨by omega, by omega, (good_exec (by omega) fun s hs => hsh s (List.mem_of_mem_drop (h1 s hs))).mono (by omega)⟩
  split
  · unfold nameM
    cases hs : l[q + 1]? with
    | none => exact ⟨by omega, by omega, Nat.le_refl _⟩
    | some s =>
      have := lt hs
      simp only
      split
      · exact ⟨by omega, by omega, by omega⟩
      · exact ⟨by omega, by omega, (good_text (.inl rfl) (sh_get hsh hs)).mono (by omega)⟩
  split
  · unfold newerM
    cases hs : l[q + 1]? with
    | none => exact ⟨by omega, by omega, Nat.le_refl _⟩
    | some s =>
      have := lt hs
      exact ⟨by omega, by omega, (good_text (.inr (.inr rfl)) (sh_get hsh hs)).mono (by omega)⟩
  split
  · unfold typeM
    cases hs : l[q + 1]? with
    | none => exact ⟨by omega, by omega, Nat.le_refl _⟩
    | some s =>
      have := lt hs
      simp only
      split
      · exact ⟨by omega, by omega, by omega⟩
      · exact ⟨by omega, by omega, (good_text (.inr (.inl rfl)) (sh_get hsh hs)).mono (by omega)⟩
  have num : ∀ kd : Nat, (kd = 6 ∨ kd = 7) → Tells 0 k l q q (numberM l kd (q + 1) ac) := by
    intro kd hkd
    unfold numberM
    cases hs : l[q + 1]? with
    | none => exact ⟨by omega, by omega, Nat.le_refl _⟩
    | some s =>
      have := lt hs
      simp only
      cases hn : numM (kd == 6) s with
      | none => exact ⟨by omega, by omega, by omega⟩
      | some x =>
        simp only
        unfold numM at hn
        obtain ⟨m, hm, rfl⟩ := Option.map_eq_some_iff.1 hn
        exact ⟨by omega, by omega, (good_num hkd (whole0_lt hm)).mono (by omega)⟩
  split
  · exact num 6 (.inl rfl)
  split
  · exact num 7 (.inr rfl)
  exact ⟨by omega, by omega, by omega⟩

theorem tells_all (hlen : l.length ≤ 64) (hsh : ∀ s ∈ l, s.length ≤ 1024) : ∀ k : Nat,
    (∀ p op ac, p ≤ l.length → Tells (3 * (l.length - p) + 1) k l p p (factorM k l p op ac)) ∧
    (∀ t p q op ac, q < p → p ≤ l.length → Good t (p - q) → TellsL (3 * (l.length - p) + 2) k l p q (termL k l t p op ac)) ∧
    (∀ p op ac, p ≤ l.length → Tells (3 * (l.length - p) + 2) k l p p (termM k l p op ac)) ∧
    (∀ t p q op ac, q < p → p ≤ l.length → Good t (p - q) → TellsL (3 * (l.length - p) + 1) k l p q (exprL k l t p op ac)) ∧
    (∀ p op ac, p ≤ l.length → Tells (3 * (l.length - p) + 3) k l p p (exprM k l p op ac)) := by
  intro k
  induction k with
  | zero =>
    refine ⟨fun p op ac _ => ?_, fun t p q op ac _ _ _ => ?_, fun p op ac _ => ?_, fun t p q op ac _ _ _ => ?_, fun p op ac _ => ?_⟩
    · unfold factorM; show 0 < _; omega
    · unfold termL; show 0 < _; omega
    · unfold termM; show 0 < _; omega
    · unfold exprL; show 0 < _; omega
    · unfold exprM; show 0 < _; omega
  | succ k ih =>
    obtain ⟨hF, hTL, hT, hXL, hX⟩ := ih
    refine ⟨fun p op ac hp => ?_, fun t p q op ac hq hp ht => ?_, fun p op ac hp => ?_, fun t p q op ac hq hp ht => ?_, fun p op ac hp => ?_⟩
    · unfold factorM
      cases hs : l[p]? with
      | none => exact ⟨by omega, by omega, Nat.le_refl _⟩
      | some s =>
        have hlt := (List.getElem?_eq_some_iff.1 hs).1
        simp only
        split
        · have := hF (p + 1) op ac (by omega)
          cases hm : factorM k l (p + 1) op ac with
          | out => rw [hm] at this; have : k < _ := this; show k + 1 < _; omega
          | bad a b => rw [hm] at this; exact this
          | ok x =>
            obtain ⟨t, p', a'⟩ := x
            rw [hm] at this
            obtain ⟨h1, h2, h3⟩ := this
            refine ⟨by omega, h2, ?_, by simp [kindU], ?_⟩
            · simp only [okU, okL]
              exact ⟨by simp, ⟨0, rfl, by omega⟩, by simp, by simp, by simp, h3.1, trivial⟩
            · rw [write_not]
              have := h3.2.2
              omega
        split
        · have := hX (p + 1) (op + 1) ac (by omega)
          cases hm : exprM k l (p + 1) (op + 1) ac with
          | out => rw [hm] at this; have : k < _ := this; show k + 1 < _; omega
          | bad a b => rw [hm] at this; exact this
          | ok x =>
            obtain ⟨t, p', a'⟩ := x
            rw [hm] at this
            obtain ⟨h1, h2, h3⟩ := this
            unfold parM
            simp only
            split
            · rename_i hy
              have := isO_lt hy
              exact ⟨by omega, by omega, h3.mono (by omega)⟩
            · exact ⟨by omega, by omega, Nat.le_refl _⟩
        split
        · split
          · exact ⟨by omega, by omega, by omega⟩
          · exact ⟨by omega, by omega, by omega⟩
        · have := prim_tells (ac := ac) (s := s) (k := k + 1) hlen hsh hlt rfl
          cases hm : primM l s p ac with
          | out => rw [hm] at this; have : k + 1 < 0 := this; omega
          | bad a b => rw [hm] at this; exact this
          | ok x => rw [hm] at this; exact this
    · unfold termL
      split
      · exact ⟨Nat.le_refl _, hp, ht⟩
      · rename_i hno
        have hp' : (if isO l kwA p = true then p + 1 else p) ≤ l.length := by
          split
          · rename_i hy; have := isO_lt hy; omega
          · exact hp
        have hpl : p < l.length := by
          rcases Nat.lt_or_ge p l.length with h | h
          · exact h
          · exfalso
            apply hno
            refine ⟨?_, .inl h⟩
            cases hy : isO l kwA p with
            | false => rfl
            | true => have := isO_lt hy; omega
        have hpp : p ≤ (if isO l kwA p = true then p + 1 else p) := by split <;> omega
        generalize (if isO l kwA p = true then p + 1 else p) = p1 at *
        have := hF p1 op ac hp'
        cases hm : factorM k l p1 op ac with
        | out => rw [hm] at this; have : k < _ := this; show k + 1 < _; omega
        | bad a b => rw [hm] at this; exact this
        | ok x =>
          obtain ⟨u, p2, a2⟩ := x
          rw [hm] at this
          obtain ⟨h1, h2, h3⟩ := this
          simp only
          have h4 := hTL (twoU 1 t u) p2 q op a2 (by omega) h2 ((ht.two (.inl rfl) h3).mono (by omega))
          cases hm2 : termL k l (twoU 1 t u) p2 op a2 with
          | out => rw [hm2] at h4; have : k < _ := h4; show k + 1 < _; omega
          | bad a b => rw [hm2] at h4; exact h4
          | ok y =>
            rw [hm2] at h4
            obtain ⟨t3, p3, a3⟩ := y
            exact ⟨by have := h4.1; omega, h4.2.1, h4.2.2⟩
    · unfold termM
      have := hF p op ac hp
      cases hm : factorM k l p op ac with
      | out => rw [hm] at this; have : k < _ := this; show k + 1 < _; omega
      | bad a b => rw [hm] at this; exact this
      | ok x =>
        obtain ⟨u, p2, a2⟩ := x
        rw [hm] at this
        obtain ⟨h1, h2, h3⟩ := this
        simp only
        have h4 := hTL u p2 p op a2 h1 h2 h3
        cases hm2 : termL k l u p2 op a2 with
        | out => rw [hm2] at h4; have : k < _ := h4; show k + 1 < _; omega
        | bad a b => rw [hm2] at h4; exact h4
        | ok y =>
          rw [hm2] at h4
          obtain ⟨t3, p3, a3⟩ := y
          exact ⟨by have := h4.1; omega, h4.2.1, h4.2.2⟩
    · unfold exprL
      split
      · rename_i hy
        have hlt := isO_lt hy
        have := hT (p + 1) op ac (by omega)
        cases hm : termM k l (p + 1) op ac with
        | out => rw [hm] at this; have : k < _ := this; show k + 1 < _; omega
        | bad a b => rw [hm] at this; exact this
        | ok x =>
          obtain ⟨u, p2, a2⟩ := x
          rw [hm] at this
          obtain ⟨h1, h2, h3⟩ := this
          simp only
          have h4 := hXL (twoU 2 t u) p2 q op a2 (by omega) h2 ((ht.two (.inr rfl) h3).mono (by omega))
          cases hm2 : exprL k l (twoU 2 t u) p2 op a2 with
          | out => rw [hm2] at h4; have : k < _ := h4; show k + 1 < _; omega
          | bad a b => rw [hm2] at h4; exact h4
          | ok y =>
            rw [hm2] at h4
            obtain ⟨t3, p3, a3⟩ := y
            exact ⟨by have := h4.1; omega, h4.2.1, h4.2.2⟩
      · exact ⟨Nat.le_refl _, hp, ht⟩
    · unfold exprM
      have := hT p op ac hp
      cases hm : termM k l p op ac with
      | out => rw [hm] at this; have : k < _ := this; show k + 1 < _; omega
      | bad a b => rw [hm] at this; exact this
      | ok x =>
        obtain ⟨u, p2, a2⟩ := x
        rw [hm] at this
        obtain ⟨h1, h2, h3⟩ := this
        simp only
        have h4 := hXL u p2 p op a2 h1 h2 h3
        cases hm2 : exprL k l u p2 op a2 with
        | out => rw [hm2] at h4; have : k < _ := h4; show k + 1 < _; omega
        | bad a b => rw [hm2] at h4; exact h4
        | ok y =>
          rw [hm2] at h4
          obtain ⟨t3, p3, a3⟩ := y
          exact ⟨by have := h4.1; omega, h4.2.1, h4.2.2⟩
def GoodT (t : U) : Prop := okU t ∧ kindU t ≠ 0 ∧ (writeU t).length ≤ 100000000
theorem Good.t {t : U} {n : Nat} (h : Good t n) (hn : n ≤ 10000) : GoodT t := ⟨h.1, h.2.1, by have := h.2.2; omega⟩
def TellsP (l : List Op) (m : Res U) : Prop :=
  match m with
  | .out => False
  | .bad code pos => 1 ≤ code ∧ code ≤ 21 ∧ pos ≤ l.length
  | .ok t => GoodT t
theorem parse_tells {k : Nat} (hk : 195 ≤ k) (l : List Op) : TellsP l (parseM k l) := by
  unfold parseM
  split
  · exact ⟨by omega, by omega, by omega⟩
  · rename_i h64
    cases hl : longAt l with
    | some i =>
      unfold longAt at hl
      rw [List.findIdx?_eq_some_iff_getElem] at hl
      obtain ⟨hi, _⟩ := hl
      exact ⟨by omega, by omega, by omega⟩
    | none =>
      have hsh : ∀ s ∈ l, s.length ≤ 1024 := by
        unfold longAt at hl
        rw [List.findIdx?_eq_none_iff] at hl
        intro s hs
        have := hl s hs
        simp at this
        omega
      simp only
      split
      · exact good_print.t (by omega)
      · have := (tells_all (l := l) (by omega) hsh k).2.2.2.2 0 0 false (by omega)
        cases hm : exprM k l 0 0 false with
        | out => rw [hm] at this; have : k < _ := this; omega
        | bad a b => rw [hm] at this; exact this
        | ok x =>
          obtain ⟨t, p, a⟩ := x
          rw [hm] at this
          obtain ⟨h1, h2, h3⟩ := this
          unfold endM
          simp only
          split
          · exact ⟨by omega, by omega, by omega⟩
          · split
            · exact h3.t (by omega)
            · exact (h3.two (.inl rfl) good_print).t (by omega)
end Rt
end Go.Proofs
